/- Part 1 of the way to the statement: the walk and what it needs. -/
import Derived.Orders
import Derived.Tactics
import Derived.Deep.AppendSrc
import Derived.Deep.MidRow
import Derived.Laws.MakeOwn
import Derived.Laws.Entries
import Derived.Laws.Small
import Derived.Laws.BytesString
import Derived.Deep.Upon
import Derived.Laws.CopyRow
import Derived.Laws.IdiomCopy
import Derived.Scope
import Derived.Test.YtfjdfnlkobeehaaProg
import Derived.KernelRfl
import Derived.Laws.RangeAny
import Derived.Laws.Strings
import Derived.Carry
import Derived.ProofKit
import Derived.OpenShut
import Derived.ShutString
import Derived.ChangeOld
import Derived.SizedLaws
import Derived.WalkKit
import Derived.Deep.SlicePairs
import Derived.Deep.CondSized
import Derived.JoinedCond
import Derived.Test.YtfjdfnlkobeehaaRows
section
set_option linter.unusedVariables false
set_option linter.unusedSimpArgs false
namespace Go.Proofs.Ytfjdfnlkobeehaa


inductive PV where
  | any
  | val (v : Value)
  | sl (n : Nat) (cs : List PV)
  | ref (id off n cap sz : Nat)
  | ptr (id off : Nat)
  | rp (cs : List PV)
  | agg (cs : List PV)
  | tup (cs : List PV)
  | fn (f : FuncId) (cs : List PV)

instance : Inhabited PV := ⟨.any⟩


structure En where
  w : World
  ρ : Nat → Nat
  nx : Nat
  A : Nat → Prop

mutual
def Rep (E : En) : PV → Value → Prop
  | .any, _ => True
  | .val x, v => v = x
  | .sl n cs, v => (n = 0 ∧ cs = [] ∧ ∃ a, v = .slice a 0 0) ∨ ∃ b o cap, v = .slice (some ⟨b, o, none⟩) n cap ∧ n ≤ cap ∧ (cs = [] ∨ (¬ E.A b ∧ Row E b o cs))
  | .ref id off n cap _, v => id < E.nx ∧ n ≤ cap ∧ (v = .slice (some ⟨E.ρ id, off, none⟩) n cap ∨ (n = 0 ∧ cap = 0 ∧ v = .slice none 0 0))
  | .ptr id off, v => id < E.nx ∧ v = .pointer (some ⟨E.ρ id, off, none⟩)
  | .rp cs, v => ∃ b o, v = .pointer (some ⟨b, o, none⟩) ∧ (cs = [] ∨ (¬ E.A b ∧ Row E b o cs))
  | .agg cs, v => ∃ vs : List Value, v = .agg vs.toArray ∧ RepL E cs vs
  | .tup cs, v => ∃ vs : List Value, v = .tuple vs.toArray ∧ RepL E cs vs
  | .fn f cs, v => ∃ vs : List Value, v = .func (.func f) #[] vs.toArray ∧ RepL E cs vs
def Row (E : En) (b o : Nat) : List PV → Prop
  | [] => True
  | c :: cs => (∃ v, E.w.cell? ⟨b, o, none⟩ = some v ∧ Rep E c v) ∧ Row E b (o + 1) cs
def RepL (E : En) : List PV → List Value → Prop
  | [], [] => True
  | c :: cs, v :: vs => Rep E c v ∧ RepL E cs vs
  | _, _ => False
end


structure En.le (E E' : En) : Prop where
  cell : ∀ b o v, ¬ E.A b → E.w.cell? ⟨b, o, none⟩ = some v → E'.w.cell? ⟨b, o, none⟩ = some v
  av : ∀ b o v, ¬ E.A b → E.w.cell? ⟨b, o, none⟩ = some v → ¬ E'.A b
  nx : E.nx ≤ E'.nx
  ρ : ∀ i, i < E.nx → E'.ρ i = E.ρ i

theorem En.le_refl (E : En) : E.le E := ⟨fun _ _ _ _ h => h, fun _ _ _ h _ => h, Nat.le_refl _, fun _ _ => rfl⟩

mutual
theorem Rep.mono {E E' : En} (h : E.le E') : ∀ (p : PV) (v : Value), Rep E p v → Rep E' p v
  | .any, _, _ => by simp [Rep]
  | .val x, v, hr => by simpa [Rep] using hr
  | .sl n cs, v, hr => by
    simp only [Rep] at hr ⊢
    rcases hr with hr | ⟨b, o, cap, rfl, hc, hr⟩
    · exact .inl hr
    refine .inr ⟨b, o, cap, rfl, hc, ?_⟩
    rcases hr with hr | ⟨hA, hr⟩
    · exact .inl hr
    · cases cs with
      | nil => exact .inl rfl
      | cons c cs =>
        refine .inr ⟨?_, Row.mono h b o _ hA hr⟩
        simp only [Row] at hr
        obtain ⟨⟨x, hx, _⟩, _⟩ := hr
        exact h.av _ _ _ hA hx
  | .ref id off n cap sz, v, hr => by
    simp only [Rep] at hr ⊢
    obtain ⟨h1, h3, h2⟩ := hr
    exact ⟨Nat.lt_of_lt_of_le h1 h.nx, h3, by rw [h.ρ _ h1]; exact h2⟩
  | .ptr id off, v, hr => by
    simp only [Rep] at hr ⊢
    obtain ⟨h1, h2⟩ := hr
    exact ⟨Nat.lt_of_lt_of_le h1 h.nx, by rw [h.ρ _ h1]; exact h2⟩
  | .rp cs, v, hr => by
    simp only [Rep] at hr ⊢
    obtain ⟨b, o, rfl, hr⟩ := hr
    refine ⟨b, o, rfl, ?_⟩
    rcases hr with hr | ⟨hA, hr⟩
    · exact .inl hr
    · cases cs with
      | nil => exact .inl rfl
      | cons c cs =>
        refine .inr ⟨?_, Row.mono h b o _ hA hr⟩
        simp only [Row] at hr
        obtain ⟨⟨x, hx, _⟩, _⟩ := hr
        exact h.av _ _ _ hA hx
  | .agg cs, v, hr => by
    simp only [Rep] at hr ⊢
    obtain ⟨vs, rfl, hr⟩ := hr
    exact ⟨vs, rfl, RepL.mono h _ _ hr⟩
  | .tup cs, v, hr => by
    simp only [Rep] at hr ⊢
    obtain ⟨vs, rfl, hr⟩ := hr
    exact ⟨vs, rfl, RepL.mono h _ _ hr⟩
  | .fn f cs, v, hr => by
    simp only [Rep] at hr ⊢
    obtain ⟨vs, rfl, hr⟩ := hr
    exact ⟨vs, rfl, RepL.mono h _ _ hr⟩
theorem Row.mono {E E' : En} (h : E.le E') (b o : Nat) : ∀ (cs : List PV), ¬ E.A b → Row E b o cs → Row E' b o cs
  | [], _, _ => by simp [Row]
  | c :: cs, hA, hr => by
    simp only [Row] at hr ⊢
    obtain ⟨⟨v, hv, hr⟩, hrs⟩ := hr
    exact ⟨⟨v, h.cell _ _ _ hA hv, Rep.mono h c v hr⟩, Row.mono h b (o + 1) cs hA hrs⟩
theorem RepL.mono {E E' : En} (h : E.le E') : ∀ (cs : List PV) (vs : List Value), RepL E cs vs → RepL E' cs vs
  | [], [], _ => by simp [RepL]
  | c :: cs, v :: vs, hr => by
    simp only [RepL] at hr ⊢
    exact ⟨Rep.mono h c v hr.1, RepL.mono h cs vs hr.2⟩
  | [], _ :: _, hr => by simp [RepL] at hr
  | _ :: _, [], hr => by simp [RepL] at hr
end

end Go.Proofs.Ytfjdfnlkobeehaa
end

section
set_option linter.unusedVariables false
set_option linter.unusedSimpArgs false
namespace Go.Proofs.Ytfjdfnlkobeehaa


def V : List Nat → Nat
  | [] => 0
  | x :: xs => x + 4294967296 * V xs

def Lm (xs : List Nat) : Prop := ∀ x ∈ xs, x < 4294967296

def D (n : Nat) : List Nat := if h : n = 0 then [] else n % 4294967296 :: D (n / 4294967296)
termination_by n
decreasing_by omega


def Hide (p : Prop) : Prop := p
theorem Hide.mk {p : Prop} (h : p) : Hide p := h
theorem Hide.out {p : Prop} (h : Hide p) : p := h

theorem V_nil : V [] = 0 := rfl
theorem V_cons (x : Nat) (xs : List Nat) : V (x :: xs) = x + 4294967296 * V xs := rfl
theorem D_zero : D 0 = [] := by rw [D]; simp
theorem D_pos {n : Nat} (h : n ≠ 0) : D n = n % 4294967296 :: D (n / 4294967296) := by rw [D]; simp [h]

theorem Lm_nil : Lm [] := fun x hx => by simp at hx
theorem Lm_cons {x : Nat} {xs : List Nat} : Lm (x :: xs) ↔ x < 4294967296 ∧ Lm xs := by simp [Lm]
theorem Lm_append {xs ys : List Nat} : Lm (xs ++ ys) ↔ Lm xs ∧ Lm ys := by
  simp only [Lm, List.mem_append]
  exact ⟨fun h => ⟨fun x hx => h x (.inl hx), fun x hx => h x (.inr hx)⟩, fun h x hx => hx.elim (h.1 x) (h.2 x)⟩
theorem Lm.take {xs : List Nat} (h : Lm xs) (i : Nat) : Lm (xs.take i) := fun x hx => h x (List.mem_of_mem_take hx)
theorem Lm.drop {xs : List Nat} (h : Lm xs) (i : Nat) : Lm (xs.drop i) := fun x hx => h x (List.mem_of_mem_drop hx)
theorem Lm.get {xs : List Nat} (h : Lm xs) (i : Nat) : xs.getD i 0 < 4294967296 := by
  rw [List.getD_eq_getElem?_getD]
  cases hx : xs[i]? with
  | none => simp
  | some x => simpa using h x (List.mem_of_getElem? hx)

theorem V_append (xs ys : List Nat) : V (xs ++ ys) = V xs + 4294967296 ^ xs.length * V ys := by
  induction xs with
  | nil => simp [V]
  | cons x xs ih => simp only [List.cons_append, V, ih, List.length_cons, Nat.pow_succ]; rw [Nat.mul_add, Nat.add_assoc, Nat.mul_comm (4294967296 ^ xs.length) 4294967296, Nat.mul_assoc]
theorem V_lt {xs : List Nat} (h : Lm xs) : V xs < 4294967296 ^ xs.length := by
  induction xs with
  | nil => simp [V]
  | cons x xs ih =>
    rw [Lm_cons] at h
    have := ih h.2
    simp only [V, List.length_cons, Nat.pow_succ]
    omega
theorem V_split (xs : List Nat) {i : Nat} (h : i ≤ xs.length) : V xs = V (xs.take i) + 4294967296 ^ i * V (xs.drop i) := by
  have := V_append (xs.take i) (xs.drop i)
  rwa [List.take_append_drop, List.length_take_of_le h] at this
theorem take_getD (xs : List Nat) {i : Nat} (h : i < xs.length) : xs.take (i + 1) = xs.take i ++ [xs.getD i 0] := by
  rw [List.take_add_one]; simp [h]
theorem drop_getD (xs : List Nat) {i : Nat} (h : i < xs.length) : xs.drop i = xs.getD i 0 :: xs.drop (i + 1) := by
  rw [List.drop_eq_getElem_cons h]; simp [h]
theorem V_take_succ (xs : List Nat) {i : Nat} (h : i < xs.length) : V (xs.take (i + 1)) = V (xs.take i) + 4294967296 ^ i * xs.getD i 0 := by
  rw [take_getD xs h, V_append, List.length_take_of_le (Nat.le_of_lt h)]; simp [V]
theorem V_drop (xs : List Nat) {i : Nat} (h : i < xs.length) : V (xs.drop i) = xs.getD i 0 + 4294967296 * V (xs.drop (i + 1)) := by
  rw [drop_getD xs h, V]
theorem V_drop_div {xs : List Nat} (h : Lm xs) {i : Nat} (hi : i ≤ xs.length) : V (xs.drop i) = V xs / 4294967296 ^ i := by
  have h1 := V_split xs hi
  have h2 := V_lt (h.take i)
  rw [List.length_take_of_le hi] at h2
  rw [h1, Nat.add_mul_div_left _ _ (Nat.pow_pos (by decide)), Nat.div_eq_of_lt h2, Nat.zero_add]
theorem V_take_mod {xs : List Nat} (h : Lm xs) {i : Nat} (hi : i ≤ xs.length) : V (xs.take i) = V xs % 4294967296 ^ i := by
  have h1 := V_split xs hi
  have h2 := V_lt (h.take i)
  rw [List.length_take_of_le hi] at h2
  rw [h1, Nat.add_mul_mod_self_left, Nat.mod_eq_of_lt h2]
theorem V_zero_of {xs : List Nat} (h : ∀ i, i < xs.length → xs.getD i 0 = 0) : V xs = 0 := by
  induction xs with
  | nil => rfl
  | cons x xs ih =>
    have h0 := h 0 (by simp)
    have := ih fun i hi => by have := h (i + 1) (by simp; omega); simpa using this
    simp at h0
    simp [V, this, h0]
theorem V_repl (n : Nat) : V (List.replicate n 0) = 0 := V_zero_of fun i hi => by
  rw [List.getD_eq_getElem?_getD, List.getElem?_replicate]; split <;> rfl
theorem Lm_repl (n : Nat) : Lm (List.replicate n 0) := fun x hx => by simp at hx; omega

theorem Lm_D (n : Nat) : Lm (D n) := by
  induction n using Nat.strongRecOn with
  | _ n ih =>
    by_cases h : n = 0
    · subst h; rw [D_zero]; exact Lm_nil
    · rw [D_pos h, Lm_cons]; exact ⟨Nat.mod_lt _ (by decide), ih _ (by omega)⟩
theorem V_D (n : Nat) : V (D n) = n := by
  induction n using Nat.strongRecOn with
  | _ n ih =>
    by_cases h : n = 0
    · subst h; rw [D_zero]; rfl
    · rw [D_pos h, V, ih _ (by omega)]; omega
theorem D_last (n : Nat) (h : n ≠ 0) : (D n).getD ((D n).length - 1) 0 ≠ 0 := by
  induction n using Nat.strongRecOn with
  | _ n ih =>
    rw [D_pos h]
    by_cases h2 : n / 4294967296 = 0
    · rw [h2, D_zero]; simp; omega
    · have := ih _ (by omega) h2
      have hl : (D (n / 4294967296)).length ≠ 0 := by
        rw [D_pos h2]; simp
      simp only [List.length_cons, Nat.add_sub_cancel]
      obtain ⟨k, hk⟩ : ∃ k, (D (n / 4294967296)).length = k + 1 := ⟨_, (Nat.succ_pred hl).symm⟩
      rw [hk] at this ⊢
      simpa using this
theorem D_nil {n : Nat} : D n = [] ↔ n = 0 := by
  constructor
  · intro h
    have := V_D n
    rw [h] at this; exact this.symm
  · rintro rfl; exact D_zero
theorem D_len_pos {n : Nat} (h : n ≠ 0) : 0 < (D n).length := by
  rw [D_pos h]; simp
theorem D_len_zero {n : Nat} : (D n).length = 0 ↔ n = 0 := by
  rw [List.length_eq_zero_iff, D_nil]

theorem D_V {xs : List Nat} (h : Lm xs) (ht : xs = [] ∨ xs.getD (xs.length - 1) 0 ≠ 0) : D (V xs) = xs := by
  induction xs with
  | nil => exact D_zero
  | cons x xs ih =>
    rw [Lm_cons] at h
    have hrec : D (V xs) = xs := ih h.2 (by
      cases xs with
      | nil => exact .inl rfl
      | cons y ys => right; simpa using ht)
    have hne : V (x :: xs) ≠ 0 := by
      simp only [V]
      cases xs with
      | nil => simp at ht; simp [V]; exact ht
      | cons y ys =>
        intro h0
        have hv : V (y :: ys) = 0 := by omega
        rw [hv, D_zero] at hrec
        simp at hrec
    rw [D_pos hne]
    have e1 : V (x :: xs) % 4294967296 = x := by simp only [V]; omega
    have e2 : V (x :: xs) / 4294967296 = V xs := by simp only [V]; omega
    rw [e1, e2, hrec]

theorem D_take {xs : List Nat} (h : Lm xs) {k : Nat} (hk : k ≤ xs.length) (h0 : ∀ i, k ≤ i → i < xs.length → xs.getD i 0 = 0) (h1 : k = 0 ∨ xs.getD (k - 1) 0 ≠ 0) : xs.take k = D (V xs) := by
  have hv : V xs = V (xs.take k) := by
    rw [V_split xs hk, V_zero_of (xs := xs.drop k) fun i hi => by
      rw [List.length_drop] at hi
      have := h0 (k + i) (by omega) (by omega)
      rw [List.getD_eq_getElem?_getD] at this ⊢
      rw [List.getElem?_drop]; exact this]
    simp
  rw [hv]
  refine (D_V (h.take k) ?_).symm
  rcases h1 with rfl | h1
  · simp
  · by_cases hk0 : k = 0
    · subst hk0; simp
    · right
      rw [List.length_take_of_le hk, List.getD_eq_getElem?_getD, List.getElem?_take, if_pos (by omega)]
      rw [List.getD_eq_getElem?_getD] at h1; exact h1
theorem D_len_le {n k : Nat} : (D n).length ≤ k ↔ n < 4294967296 ^ k := by
  constructor
  · intro h
    have h1 := V_lt (Lm_D n)
    rw [V_D] at h1
    exact Nat.lt_of_lt_of_le h1 (Nat.pow_le_pow_right (by decide) h)
  · intro h
    induction k generalizing n with
    | zero => simp at h; subst h; rw [D_zero]; simp
    | succ k ih =>
      by_cases h0 : n = 0
      · subst h0; rw [D_zero]; simp
      · rw [D_pos h0, List.length_cons]
        have : n / 4294967296 < 4294967296 ^ k := by
          rw [Nat.pow_succ] at h
          omega
        have := ih this
        omega
theorem D_len_V {xs : List Nat} (h : Lm xs) : (D (V xs)).length ≤ xs.length := D_len_le.2 (V_lt h)
theorem V_inj {xs ys : List Nat} (hx : Lm xs) (hy : Lm ys) (hl : xs.length = ys.length) (h : V xs = V ys) : xs = ys := by
  induction xs generalizing ys with
  | nil => cases ys with
    | nil => rfl
    | cons y ys => simp at hl
  | cons x xs ih => cases ys with
    | nil => simp at hl
    | cons y ys =>
      rw [Lm_cons] at hx hy
      simp only [V] at h
      have e1 : x = y := by omega
      have e2 : V xs = V ys := by omega
      rw [e1, ih hx.2 hy.2 (by simpa using hl) e2]
theorem D_of_len {xs : List Nat} (h : Lm xs) (hl : xs.length ≤ (D (V xs)).length) : D (V xs) = xs :=
  V_inj (Lm_D _) h (Nat.le_antisymm (D_len_V h) hl) (V_D _)
theorem D_len_mono {a b : Nat} (h : a ≤ b) : (D a).length ≤ (D b).length := by
  have := V_lt (Lm_D b)
  rw [V_D] at this
  exact D_len_le.2 (Nat.lt_of_le_of_lt h this)
theorem D_lt_of_len {a b : Nat} (h : (D a).length < (D b).length) : a < b := Nat.lt_of_not_le fun hh => by have := D_len_mono hh; omega
theorem D_len_gt {n k : Nat} : k < (D n).length ↔ 4294967296 ^ k ≤ n := by
  have := D_len_le (n := n) (k := k)
  omega


theorem V_lt_of_top {xs ys : List Nat} (hx : Lm xs) (hl : xs.length = ys.length) {i : Nat} (hi : i < xs.length) (ht : V (xs.drop (i + 1)) = V (ys.drop (i + 1))) (hlt : xs.getD i 0 < ys.getD i 0) : V xs < V ys := by
  rw [V_split xs (Nat.le_of_lt hi), V_split ys (by omega : i ≤ ys.length), V_drop xs hi, V_drop ys (by omega), ht]
  have h1 := V_lt (hx.take i)
  rw [List.length_take_of_le (Nat.le_of_lt hi)] at h1
  calc V (xs.take i) + 4294967296 ^ i * (xs.getD i 0 + 4294967296 * V (ys.drop (i + 1))) < 4294967296 ^ i + 4294967296 ^ i * (xs.getD i 0 + 4294967296 * V (ys.drop (i + 1))) := by omega
    _ = 4294967296 ^ i * (xs.getD i 0 + 1 + 4294967296 * V (ys.drop (i + 1))) := by rw [Nat.add_right_comm, Nat.mul_add _ _ 1]; omega
    _ ≤ 4294967296 ^ i * (ys.getD i 0 + 4294967296 * V (ys.drop (i + 1))) := Nat.mul_le_mul_left _ (by omega)
    _ ≤ _ := by omega

theorem list_ext0 {xs ys : List Nat} (hl : xs.length = ys.length) (h : ∀ i, i < xs.length → xs.getD i 0 = ys.getD i 0) : xs = ys := by
  apply List.ext_getElem hl
  intro i h1 h2
  have := h i h1
  simpa [h1, h2] using this


def cmpI (a b : Nat) : Int := if a < b then -1 else if b < a then 1 else 0
theorem cmpI_lt {a b : Nat} (h : a < b) : cmpI a b = -1 := by simp [cmpI, h]
theorem cmpI_gt {a b : Nat} (h : b < a) : cmpI a b = 1 := by simp [cmpI, h, Nat.lt_asymm h]
theorem cmpI_eq {a b : Nat} (h : a = b) : cmpI a b = 0 := by simp [cmpI, h]

end Go.Proofs.Ytfjdfnlkobeehaa

namespace Go.Proofs.Ytfjdfnlkobeehaa

def bl (n : Nat) : Nat := if h : n = 0 then 0 else bl (n / 2) + 1
termination_by n
decreasing_by omega
theorem bl_zero : bl 0 = 0 := by rw [bl]; simp
theorem bl_pos {n : Nat} (h : n ≠ 0) : bl n = bl (n / 2) + 1 := by rw [bl]; simp [h]
theorem bl_le {n k : Nat} : bl n ≤ k ↔ n < 2 ^ k := by
  induction k generalizing n with
  | zero =>
    constructor
    · intro h
      by_cases h0 : n = 0
      · omega
      · rw [bl_pos h0] at h; omega
    · intro h; have : n = 0 := by simpa using h
      subst this; rw [bl_zero]; omega
  | succ k ih =>
    by_cases h0 : n = 0
    · subst h0; rw [bl_zero]; simp; exact Nat.pow_pos (by decide)
    · rw [bl_pos h0, Nat.pow_succ]
      have := ih (n := n / 2)
      constructor
      · intro h; have := this.1 (by omega); omega
      · intro h; have := this.2 (by omega); omega
theorem bl_eq {n k : Nat} (h1 : 2 ^ k ≤ n) (h2 : n < 2 ^ (k + 1)) : bl n = k + 1 := by
  have := bl_le.2 h2
  have : ¬ bl n ≤ k := fun h => by have := bl_le.1 h; omega
  omega
theorem bl_lt {n : Nat} : n < 2 ^ bl n := bl_le.1 (Nat.le_refl _)
theorem bl_ge {n : Nat} (h : n ≠ 0) : 2 ^ (bl n - 1) ≤ n := by
  have : 0 < bl n := by rw [bl_pos h]; omega
  have h1 : ¬ bl n ≤ bl n - 1 := by omega
  exact Nat.le_of_not_lt fun hh => h1 (bl_le.2 hh)
theorem bl_shift {n r k : Nat} (hn : n ≠ 0) (hr : r < 2 ^ k) : bl (r + 2 ^ k * n) = k + bl n := by
  obtain ⟨m, hm⟩ : ∃ m, bl n = m + 1 := ⟨bl n - 1, by have := bl_pos hn; omega⟩
  have h1 := bl_ge hn
  have h2 := bl_lt (n := n)
  rw [hm] at h1 h2 ⊢
  simp only [Nat.add_sub_cancel] at h1
  refine bl_eq (k := k + m) ?_ ?_
  · rw [Nat.pow_add]
    have := Nat.mul_le_mul_left (2 ^ k) h1
    omega
  · rw [Nat.add_assoc, Nat.pow_add]
    have := Nat.mul_le_mul_left (2 ^ k) (show n + 1 ≤ 2 ^ (m + 1) by omega)
    rw [Nat.mul_add] at this
    omega
theorem bl_div {n : Nat} (k : Nat) (h : 2 ^ k ≤ n) : bl n = k + bl (n / 2 ^ k) := by
  have h0 : 0 < 2 ^ k := Nat.pow_pos (by decide)
  have := bl_shift (n := n / 2 ^ k) (r := n % 2 ^ k) (k := k) (by have := Nat.div_pos h h0; omega) (Nat.mod_lt _ h0)
  rwa [Nat.mod_add_div] at this
theorem pow32 (k : Nat) : 4294967296 ^ k = 2 ^ (32 * k) := by rw [Nat.pow_mul]

theorem bl_top {n : Nat} (h : n ≠ 0) : bl n = 32 * ((D n).length - 1) + bl ((D n).getD ((D n).length - 1) 0) := by
  have hl := D_len_pos h
  have ht := D_last n h
  have hs := V_split (D n) (i := (D n).length - 1) (by omega)
  have hd := V_drop (D n) (i := (D n).length - 1) (by omega)
  rw [show (D n).length - 1 + 1 = (D n).length by omega, List.drop_length] at hd
  simp only [V, Nat.mul_zero, Nat.add_zero] at hd
  rw [hd, V_D, pow32] at hs
  have hlt := V_lt ((Lm_D n).take ((D n).length - 1))
  rw [List.length_take_of_le (by omega), pow32] at hlt
  conv => lhs; rw [hs]
  exact bl_shift ht hlt

end Go.Proofs.Ytfjdfnlkobeehaa

namespace Go.Proofs.Ytfjdfnlkobeehaa


def pad : Nat → Nat → List Nat
  | 0, _ => []
  | n + 1, v => v % 4294967296 :: pad n (v / 4294967296)
theorem pad_len (n v : Nat) : (pad n v).length = n := by
  induction n generalizing v with
  | zero => rfl
  | succ n ih => simp [pad, ih]
theorem pad_lm (n v : Nat) : Lm (pad n v) := by
  induction n generalizing v with
  | zero => exact Lm_nil
  | succ n ih => exact Lm_cons.2 ⟨Nat.mod_lt _ (by decide), ih _⟩
theorem pad_V (n v : Nat) : V (pad n v) = v % 4294967296 ^ n := by
  induction n generalizing v with
  | zero => simp [pad, V, Nat.mod_one]
  | succ n ih =>
    simp only [pad, V, ih, Nat.pow_succ]
    rw [Nat.mul_comm (4294967296 ^ n), Nat.mod_mul]
theorem right_step {r : Nat} (hr : r < 32) (v w : Nat) : (v + 18446744073709551616 * w) / 2 ^ r % 4294967296 = v / 2 ^ r % 4294967296 := by
  have hp : 0 < 2 ^ r := Nat.pow_pos (by decide)
  obtain ⟨m, hm⟩ : ∃ m, 18446744073709551616 = 2 ^ r * (m * 4294967296) := by
    refine ⟨2 ^ (32 - r), ?_⟩
    have h : 2 ^ r * 2 ^ (32 - r) = 4294967296 := by
      rw [← Nat.pow_add, show r + (32 - r) = 32 by omega]
    rw [← Nat.mul_assoc, h]
  generalize 18446744073709551616 = c at hm
  subst hm
  rw [Nat.mul_assoc, Nat.add_mul_div_left _ _ hp, Nat.mul_right_comm, Nat.mul_comm _ 4294967296, Nat.add_mul_mod_self_left]

end Go.Proofs.Ytfjdfnlkobeehaa
end

section
set_option linter.unusedVariables false
set_option linter.unusedSimpArgs false
namespace Go.Proofs.Ytfjdfnlkobeehaa


abbrev Vc := Nat → Int

def dtx (f : List Vc → Int) (c : Nat) : List Vc → List Vc → Int
  | _, [] => 0
  | p, r :: rs => r c * f (p ++ rs) - dtx f c (p ++ [r]) rs

def dt : List Nat → List Vc → Int
  | [], [] => 1
  | [], _ :: _ => 0
  | c :: cs, rs => dtx (dt cs) c [] rs
theorem dt_cons (c : Nat) (cs : List Nat) (rs : List Vc) : dt (c :: cs) rs = dtx (dt cs) c [] rs := by rw [dt]
theorem dt_nil_cons (l m : List Vc) (x : Vc) : dt [] (l ++ x :: m) = 0 := by
  cases l <;> rfl


def LinC (cs : List Nat) (f : List Vc → Int) : Prop := ∀ (pre post : List Vc) (a b : Int) (u v w : Vc), (∀ c ∈ cs, w c = a * u c + b * v c) → f (pre ++ w :: post) = a * f (pre ++ u :: post) + b * f (pre ++ v :: post)
theorem dtx_lin_pre {cs : List Nat} {f : List Vc → Int} (hf : LinC cs f) {a b : Int} {u v w : Vc} (hw : ∀ c ∈ cs, w c = a * u c + b * v c) (c : Nat) (p : List Vc) :
    ∀ (post p' : List Vc), dtx f c (p ++ w :: p') post = a * dtx f c (p ++ u :: p') post + b * dtx f c (p ++ v :: p') post
  | [], p' => by simp [dtx]
  | r :: rest, p' => by
    have ih := dtx_lin_pre hf hw c p rest (p' ++ [r])
    have h1 := hf p (p' ++ rest) a b u v w hw
    simp only [dtx, List.append_assoc, List.cons_append] at ih h1 ⊢
    rw [ih, h1]
    simp only [Int.mul_add, Int.mul_sub]
    rw [Int.mul_left_comm (r c) a, Int.mul_left_comm (r c) b]
    omega
theorem dtx_lin {cs : List Nat} {f : List Vc → Int} (hf : LinC cs f) {a b : Int} {u v w : Vc} {c : Nat} (hw : ∀ x ∈ c :: cs, w x = a * u x + b * v x) (post : List Vc) :
    ∀ (pre p : List Vc), dtx f c p (pre ++ w :: post) = a * dtx f c p (pre ++ u :: post) + b * dtx f c p (pre ++ v :: post)
  | [], p => by
    have hw' : ∀ x ∈ cs, w x = a * u x + b * v x := fun x hx => hw x (List.mem_cons_of_mem _ hx)
    have h1 := dtx_lin_pre hf hw' c p post []
    have h2 := hw c (List.mem_cons_self ..)
    simp only [dtx, List.nil_append] at h1 ⊢
    rw [h1, h2]
    simp only [Int.mul_add, Int.mul_sub, Int.add_mul, Int.mul_assoc]
    omega
  | r :: pre, p => by
    have hw' : ∀ x ∈ cs, w x = a * u x + b * v x := fun x hx => hw x (List.mem_cons_of_mem _ hx)
    have ih := dtx_lin hf hw post pre (p ++ [r])
    have h1 := hf (p ++ pre) post a b u v w hw'
    simp only [dtx, List.append_assoc, List.cons_append] at ih h1 ⊢
    rw [ih, h1]
    simp only [Int.mul_add, Int.mul_sub]
    rw [Int.mul_left_comm (r c) a, Int.mul_left_comm (r c) b]
    omega
theorem dt_lin : ∀ cs : List Nat, LinC cs (dt cs)
  | [] => fun pre post a b u v w _ => by rw [dt_nil_cons, dt_nil_cons, dt_nil_cons]; simp
  | c :: cs => fun pre post a b u v w hw => by
    simp only [dt_cons]
    exact dtx_lin (dt_lin cs) hw post pre []


def AltC (f : List Vc → Int) : Prop := ∀ (pre post : List Vc) (x y : Vc), f (pre ++ x :: y :: post) = -f (pre ++ y :: x :: post)
theorem dtx_alt_pre {f : List Vc → Int} (hf : AltC f) (c : Nat) (p : List Vc) (x y : Vc) : ∀ (post p' : List Vc), dtx f c (p ++ x :: y :: p') post = -dtx f c (p ++ y :: x :: p') post
  | [], p' => by simp [dtx]
  | r :: rest, p' => by
    have ih := dtx_alt_pre hf c p x y rest (p' ++ [r])
    have h1 := hf p (p' ++ rest) x y
    simp only [dtx, List.append_assoc, List.cons_append] at ih h1 ⊢
    rw [ih, h1, Int.mul_neg]
    omega
theorem dtx_alt {f : List Vc → Int} (hf : AltC f) (c : Nat) (x y : Vc) (post : List Vc) : ∀ (pre p : List Vc), dtx f c p (pre ++ x :: y :: post) = -dtx f c p (pre ++ y :: x :: post)
  | [], p => by
    have h1 := dtx_alt_pre hf c p x y post []
    simp only [dtx, List.append_assoc, List.cons_append, List.nil_append] at h1 ⊢
    rw [h1]
    omega
  | r :: pre, p => by
    have ih := dtx_alt hf c x y post pre (p ++ [r])
    have h1 := hf (p ++ pre) post x y
    simp only [dtx, List.append_assoc, List.cons_append] at ih h1 ⊢
    rw [ih, h1, Int.mul_neg]
    omega
theorem dt_alt : ∀ cs : List Nat, AltC (dt cs)
  | [] => fun pre post x y => by rw [dt_nil_cons, dt_nil_cons]; rfl
  | c :: cs => fun pre post x y => by
    simp only [dt_cons]
    exact dtx_alt (dt_alt cs) c x y post pre []

theorem dt_twice (cs : List Nat) (x : Vc) (post : List Vc) : ∀ (mid pre : List Vc), dt cs (pre ++ x :: (mid ++ x :: post)) = 0
  | [], pre => by
    have := dt_alt cs pre post x x
    simp only [List.nil_append]
    omega
  | m :: mid, pre => by
    have h1 := dt_alt cs pre (mid ++ x :: post) x m
    have ih := dt_twice cs x post mid (pre ++ [m])
    simp only [List.append_assoc, List.cons_append, List.nil_append] at h1 ih ⊢
    rw [h1, ih]; rfl
theorem dt_mem {cs : List Nat} {x : Vc} {pre post : List Vc} (h : x ∈ pre ∨ x ∈ post) : dt cs (pre ++ x :: post) = 0 := by
  rcases h with h | h
  · obtain ⟨a, b, rfl⟩ := List.append_of_mem h
    have := dt_twice cs x post b a
    simpa [List.append_assoc] using this
  · obtain ⟨a, b, rfl⟩ := List.append_of_mem h
    exact dt_twice cs x b a pre
theorem dt_congr {cs : List Nat} {pre post : List Vc} {u w : Vc} (h : ∀ c ∈ cs, w c = u c) : dt cs (pre ++ w :: post) = dt cs (pre ++ u :: post) := by
  have := dt_lin cs pre post 1 0 u u w (fun c hc => by rw [h c hc]; omega)
  omega
theorem dt_scale {cs : List Nat} {pre post : List Vc} {u w : Vc} {a : Int} (h : ∀ c ∈ cs, w c = a * u c) : dt cs (pre ++ w :: post) = a * dt cs (pre ++ u :: post) := by
  have := dt_lin cs pre post a 0 u u w (fun c hc => by rw [h c hc]; omega)
  omega
theorem dt_zero {cs : List Nat} {pre post : List Vc} {w : Vc} (h : ∀ c ∈ cs, w c = 0) : dt cs (pre ++ w :: post) = 0 := by
  have := dt_lin cs pre post 0 0 w w w (fun c hc => by rw [h c hc]; omega)
  omega

def lcs : List Int → List Vc → Vc
  | a :: as, r :: rs, j => a * r j + lcs as rs j
  | _, _, _ => 0
theorem lcs_nil (rs : List Vc) (j : Nat) : lcs [] rs j = 0 := by rw [lcs]; simp
theorem lcs_app {j : Nat} : ∀ {m : List Int} {rs : List Vc} (n : List Int) (ss : List Vc), m.length = rs.length → lcs (m ++ n) (rs ++ ss) j = lcs m rs j + lcs n ss j
  | [], [], n, ss, _ => by rw [lcs_nil]; simp
  | a :: m, r :: rs, n, ss, h => by
    simp only [List.cons_append, lcs]
    rw [lcs_app n ss (by simpa using h)]; omega
  | [], _ :: _, _, _, h => by simp at h
  | _ :: _, [], _, _, h => by simp at h
theorem lcs_nil_r (m : List Int) (j : Nat) : lcs m [] j = 0 := by cases m <;> rfl
theorem lcs_cons (a : Int) (m : List Int) (r : Vc) (rs : List Vc) (j : Nat) : lcs (a :: m) (r :: rs) j = a * r j + lcs m rs j := rfl

theorem dt_add {cs : List Nat} {pre post : List Vc} {x : Vc} (m : List Int) (rs : List Vc) (w : Vc) (hr : ∀ r ∈ rs, r ∈ pre ∨ r ∈ post) (hw : ∀ c ∈ cs, w c = x c + lcs m rs c) : dt cs (pre ++ w :: post) = dt cs (pre ++ x :: post) := by
  induction m generalizing rs w with
  | nil => exact dt_congr fun c hc => by rw [hw c hc, lcs_nil]; omega
  | cons a m ih =>
    cases rs with
    | nil => exact dt_congr fun c hc => by rw [hw c hc, lcs_nil_r]; omega
    | cons r rs =>
      have ih := ih rs (fun j => x j + lcs m rs j) (fun s hs => hr s (List.mem_cons_of_mem _ hs)) (fun c hc => rfl)
      have h1 := dt_lin cs pre post 1 a (fun j => x j + lcs m rs j) r w (fun c hc => by rw [hw c hc, lcs_cons]; omega)
      rw [dt_mem (hr r (List.mem_cons_self ..)), ih] at h1
      omega

theorem dt_put {cs : List Nat} {pre post : List Vc} {x w : Vc} {a b : Int} {m n : List Int} (hm : ∀ c ∈ cs, b * w c = a * x c + lcs m pre c + lcs n post c) : b * dt cs (pre ++ w :: post) = a * dt cs (pre ++ x :: post) := by
  have h1 := dt_scale (cs := cs) (pre := pre) (post := post) (u := w) (w := fun j => b * w j) (a := b) (fun c hc => rfl)
  have h2 := dt_scale (cs := cs) (pre := pre) (post := post) (u := x) (w := fun j => a * x j) (a := a) (fun c hc => rfl)
  have h3 := dt_add (cs := cs) (pre := pre) (post := post) (x := fun j => a * x j) m pre (fun j => a * x j + lcs m pre j) (fun r hr => .inl hr) (fun c hc => rfl)
  have h4 := dt_add (cs := cs) (pre := pre) (post := post) (x := fun j => a * x j + lcs m pre j) n post (fun j => b * w j) (fun r hr => .inr hr) hm
  rw [← h1, h4, h3, h2]


def sgn : Nat → Int
  | 0 => 1
  | n + 1 => -sgn n
theorem sgn_succ (n : Nat) : sgn (n + 1) = -sgn n := rfl
theorem sgn_ne (n : Nat) : sgn n ≠ 0 := by
  induction n with
  | zero => decide
  | succ n ih => rw [sgn_succ]; omega
theorem dtx_pre0 {f : List Vc → Int} {u : Vc} (hf : ∀ a b, f (a ++ u :: b) = 0) (c : Nat) (p : List Vc) : ∀ (post p' : List Vc), dtx f c (p ++ u :: p') post = 0
  | [], p' => rfl
  | r :: rest, p' => by
    have ih := dtx_pre0 hf c p rest (p' ++ [r])
    have h1 := hf p (p' ++ rest)
    simp only [dtx, List.append_assoc, List.cons_append] at ih h1 ⊢
    rw [ih, h1]; simp
theorem dtx_first {f : List Vc → Int} {u : Vc} (hf : ∀ a b, f (a ++ u :: b) = 0) (c : Nat) (post : List Vc) : ∀ (pre p : List Vc), dtx f c p (pre ++ u :: post) = sgn pre.length * (u c * f (p ++ (pre ++ post)))
  | [], p => by
    have h1 := dtx_pre0 hf c p post []
    simp only [dtx, List.nil_append, List.length_nil, sgn] at h1 ⊢
    rw [h1]; omega
  | r :: pre, p => by
    have ih := dtx_first hf c post pre (p ++ [r])
    have h1 := hf (p ++ pre) post
    simp only [dtx, List.append_assoc, List.cons_append, List.nil_append, List.length_cons, sgn_succ] at ih h1 ⊢
    rw [ih, h1, Int.neg_mul]; omega
theorem dtx_pass_pre {F G : List Vc → Int} {u : Vc} {k : Nat} {x : Int} (hF : ∀ a b, F (a ++ u :: b) = sgn (a.length + k) * (x * G (a ++ b))) (c : Nat) (p : List Vc) : ∀ (post p' : List Vc), dtx F c (p ++ u :: p') post = sgn (p.length + k) * (x * dtx G c (p ++ p') post)
  | [], p' => by simp [dtx]
  | r :: rest, p' => by
    have ih := dtx_pass_pre hF c p rest (p' ++ [r])
    have h1 := hF p (p' ++ rest)
    simp only [dtx, List.append_assoc, List.cons_append] at ih h1 ⊢
    rw [ih, h1]
    simp only [Int.mul_sub]
    rw [Int.mul_left_comm (r c), Int.mul_left_comm (r c) x]
theorem dtx_pass {F G : List Vc → Int} {u : Vc} {k : Nat} {x : Int} (hF : ∀ a b, F (a ++ u :: b) = sgn (a.length + k) * (x * G (a ++ b))) {c : Nat} (hu : u c = 0) (post : List Vc) : ∀ (pre p : List Vc), dtx F c p (pre ++ u :: post) = sgn (p.length + pre.length + k + 1) * (x * dtx G c p (pre ++ post))
  | [], p => by
    have h1 := dtx_pass_pre hF c p post []
    simp only [dtx, List.nil_append, List.length_nil, sgn_succ, List.append_nil, Nat.add_zero] at h1 ⊢
    rw [h1, hu, Int.neg_mul]; omega
  | r :: pre, p => by
    have ih := dtx_pass hF hu post pre (p ++ [r])
    have h1 := hF (p ++ pre) post
    rw [show (p ++ [r]).length + pre.length + k + 1 = (p ++ pre).length + k + 1 + 1 by simp; omega, sgn_succ, sgn_succ] at ih
    rw [show p.length + (r :: pre).length + k + 1 = (p ++ pre).length + k + 1 + 1 by simp; omega, sgn_succ, sgn_succ]
    simp only [dtx, List.append_assoc, List.cons_append, List.nil_append] at ih h1 ⊢
    rw [ih, h1]
    simp only [Int.mul_sub, Int.neg_neg]
    rw [Int.mul_left_comm (r c), Int.mul_left_comm (r c) x]

theorem dt_one {c : Nat} {cr : List Nat} {u : Vc} (hr : ∀ j ∈ cr, u j = 0) (post : List Vc) : ∀ (cl : List Nat) (pre : List Vc), (∀ j ∈ cl, u j = 0) → dt (cl ++ c :: cr) (pre ++ u :: post) = sgn (pre.length + cl.length) * (u c * dt (cl ++ cr) (pre ++ post))
  | [], pre, _ => by
    simp only [List.nil_append, dt_cons, List.length_nil, Nat.add_zero]
    have := dtx_first (f := dt cr) (u := u) (fun a b => dt_zero hr) c post pre []
    simpa using this
  | c0 :: cl, pre, hl => by
    simp only [List.cons_append, dt_cons]
    have hl' : ∀ j ∈ cl, u j = 0 := fun j hj => hl j (List.mem_cons_of_mem _ hj)
    have key : ∀ (post pre : List Vc), dt (cl ++ c :: cr) (pre ++ u :: post) = sgn (pre.length + cl.length) * (u c * dt (cl ++ cr) (pre ++ post)) := fun post pre => dt_one hr post cl pre hl'
    have := dtx_pass (F := dt (cl ++ c :: cr)) (G := dt (cl ++ cr)) (u := u) (k := cl.length) (x := u c) (fun a b => key b a) (c := c0) (hl c0 (List.mem_cons_self ..)) post pre []
    simpa [Nat.add_assoc] using this
end Go.Proofs.Ytfjdfnlkobeehaa
end

section
set_option linter.unusedVariables false
set_option linter.unusedSimpArgs false
namespace Go.Proofs.Ytfjdfnlkobeehaa


def Bd (β : Nat) (cs : List Nat) : List Vc → List Nat → Prop
  | [], [] => True
  | r :: rs, k :: ks => (∀ c ∈ cs, (r c).natAbs ≤ β ^ k) ∧ Bd β cs rs ks
  | _, _ => False
theorem Bd.app {β : Nat} {cs : List Nat} : ∀ {rs ss : List Vc} {ks ls : List Nat}, Bd β cs rs ks → Bd β cs ss ls → Bd β cs (rs ++ ss) (ks ++ ls)
  | [], _, [], _, _, h => h
  | _ :: _, _, _ :: _, _, h, h' => ⟨h.1, Bd.app h.2 h'⟩
  | [], _, _ :: _, _, h, _ => h.elim
  | _ :: _, _, [], _, h, _ => h.elim
theorem Bd.tail {β c : Nat} {cs : List Nat} : ∀ {rs : List Vc} {ks : List Nat}, Bd β (c :: cs) rs ks → Bd β cs rs ks
  | [], [], h => h
  | _ :: _, _ :: _, h => ⟨fun x hx => h.1 x (List.mem_cons_of_mem _ hx), Bd.tail h.2⟩
  | [], _ :: _, h => h.elim
  | _ :: _, [], h => h.elim

def wsum (ks : List Nat) : Nat := ks.sum + ks.length
theorem wsum_app (ks ls : List Nat) : wsum (ks ++ ls) = wsum ks + wsum ls := by simp [wsum]; omega
theorem wsum_cons (k : Nat) (ks : List Nat) : wsum (k :: ks) = k + 1 + wsum ks := by simp [wsum]; omega
theorem dtx_bound {β N c E : Nat} {cs : List Nat} {f : List Vc → Int} (hf : ∀ l kl, Bd β cs l kl → l.length ≤ N → (f l).natAbs ≤ β ^ wsum kl) :
    ∀ (rs : List Vc) (ks : List Nat) (p : List Vc) (kp : List Nat), Bd β (c :: cs) rs ks → Bd β (c :: cs) p kp → p.length + rs.length ≤ N + 1 → wsum kp + wsum ks = E + 1 → (dtx f c p rs).natAbs ≤ rs.length * β ^ E
  | [], _, _, _, _, _, _, _ => by simp [dtx]
  | r :: rs, k :: ks, p, kp, h, hp, hl, hw => by
    rw [wsum_cons] at hw
    have h1 := hf (p ++ rs) (kp ++ ks) (hp.tail.app h.2.tail) (by simp at hl ⊢; omega)
    have h2 := dtx_bound (E := E) hf rs ks (p ++ [r]) (kp ++ [k]) h.2 (hp.app ⟨h.1, trivial⟩) (by simp at hl ⊢; omega) (by rw [wsum_app]; simp [wsum] at hw ⊢; omega)
    have h3 := h.1 c (List.mem_cons_self ..)
    have h4 : (r c * f (p ++ rs)).natAbs ≤ β ^ E := by
      rw [Int.natAbs_mul]
      have := Nat.mul_le_mul h3 h1
      rw [← Nat.pow_add, wsum_app] at this
      rwa [show k + (wsum kp + wsum ks) = E by omega] at this
    have h5 := Int.natAbs_sub_le (r c * f (p ++ rs)) (dtx f c (p ++ [r]) rs)
    simp only [dtx, List.length_cons, Nat.add_mul, Nat.one_mul]
    omega
  | _ :: _, [], _, _, h, _, _, _ => h.elim
theorem dt_bound {β : Nat} : ∀ (cs : List Nat) (rs : List Vc) (ks : List Nat), Bd β cs rs ks → rs.length ≤ β → (dt cs rs).natAbs ≤ β ^ wsum ks
  | [], [], [], _, _ => by simp [dt, wsum]
  | [], r :: rs, ks, _, _ => by simp [dt]
  | [], [], _ :: _, h, _ => h.elim
  | c :: cs, rs, ks, h, hl => by
    rw [dt_cons]
    by_cases h0 : rs = []
    · subst h0; simp [dtx]
    · obtain ⟨E, hE⟩ : ∃ E, wsum ks = E + 1 := by
        cases rs with
        | nil => exact absurd rfl h0
        | cons r rs =>
          cases ks with
          | nil => exact h.elim
          | cons k ks => exact ⟨k + wsum ks, by rw [wsum_cons]; omega⟩
      have := dtx_bound (β := β) (N := rs.length - 1) (c := c) (cs := cs) (E := E) (f := dt cs) (fun l kl hb hn => dt_bound cs l kl hb (by omega)) rs ks [] [] h trivial (by
        have := List.length_pos_iff.2 h0
        simp; omega) (by simpa [wsum] using hE)
      refine Nat.le_trans this ?_
      rw [hE, Nat.pow_succ, Nat.mul_comm]
      exact Nat.mul_le_mul_left _ hl


def Spn (I : List Vc) (u : Vc) : Prop := ∃ (q : Int) (m : List Int), q ≠ 0 ∧ m.length = I.length ∧ ∀ j, q * u j = lcs m I j
theorem lcs_zip {x y : Int} {j : Nat} : ∀ {m n : List Int} {I : List Vc}, m.length = I.length → n.length = I.length → lcs (List.zipWith (fun a b => x * a + y * b) m n) I j = x * lcs m I j + y * lcs n I j
  | [], [], [], _, _ => by simp [lcs_nil]
  | a :: m, b :: n, r :: I, h, h' => by
    simp only [List.zipWith_cons_cons, lcs_cons]
    rw [lcs_zip (by simpa using h) (by simpa using h')]
    simp only [Int.mul_add, Int.add_mul, Int.mul_assoc]
    omega
  | [], _ :: _, [], _, h => by simp at h
  | _ :: _, [], [], h, _ => by simp at h
  | [], _, _ :: _, h, _ => by simp at h
  | _ :: _, [], _ :: _, _, h => by simp at h
  | _ :: _, _ :: _, [], h, _ => by simp at h
theorem Spn.add {I : List Vc} {u v w : Vc} {a b g : Int} (hg : g ≠ 0) (hu : Spn I u) (hv : Spn I v) (hw : ∀ j, g * w j = a * u j + b * v j) : Spn I w := by
  obtain ⟨p, m, hp, hm, h1⟩ := hu
  obtain ⟨q, n, hq, hn, h2⟩ := hv
  refine ⟨p * q * g, List.zipWith (fun x y => (a * q) * x + (b * p) * y) m n, Int.mul_ne_zero (Int.mul_ne_zero hp hq) hg, by simp [hm, hn], fun j => ?_⟩
  rw [lcs_zip hm hn, ← h1 j, ← h2 j, Int.mul_assoc, hw j]
  simp only [Int.mul_add, Int.mul_assoc]
  rw [show p * (q * (a * u j)) = a * (q * (p * u j)) by simp only [Int.mul_left_comm, Int.mul_comm], show p * (q * (b * v j)) = b * (p * (q * v j)) by simp only [Int.mul_left_comm, Int.mul_comm]]
theorem Spn.ext {I : List Vc} {u o : Vc} (h : Spn I u) : Spn (I ++ [o]) u := by
  obtain ⟨q, m, hq, hm, h1⟩ := h
  refine ⟨q, m ++ [0], hq, by simp [hm], fun j => ?_⟩
  rw [h1 j, lcs_app [0] [o] hm, lcs_cons, lcs_nil]; omega


def swp (i t k : Nat) : Nat := if k = i then t else if k = t then i else k
theorem swp_lt {i t k : Nat} (hi : t ≤ i) (hk : k < t) : swp i t k = k := by unfold swp; rw [if_neg (by omega), if_neg (by omega)]
theorem swp_bd {i t k n : Nat} (hi : i < n) (ht : t < n) (hk : k < n) : swp i t k < n := by unfold swp; split; exact ht; split; exact hi; exact hk
theorem swp_ge {i t k : Nat} (hi : t ≤ i) (hk : t ≤ k) : t ≤ swp i t k := by unfold swp; split; omega; split; omega; exact hk
theorem swp_t {i t : Nat} : swp i t t = i := by unfold swp; split; omega; rw [if_pos rfl]


structure EI (W O : Nat → Vc) (n : Nat) (C : List Nat) : Prop where
  tle : C.length ≤ n
  piv : ∀ (k : Nat) (hk : k < C.length), Spn ((List.range C.length).map O) (W k) ∧ (∀ (j : Nat) (hj : j < C.length), j ≠ k → W k C[j] = 0) ∧ W k C[k] ≠ 0
  non : ∀ k, C.length ≤ k → k < n → (∃ (q μ : Int) (m : List Int), q ≠ 0 ∧ μ ≠ 0 ∧ m.length = C.length ∧ ∀ j, q * W k j = μ * O k j + lcs m ((List.range C.length).map O) j) ∧ ∀ c ∈ C, W k c = 0
  det : dt C ((List.range C.length).map O) ≠ 0
theorem EI.start {O : Nat → Vc} {W : Nat → Vc} {n : Nat} (h : ∀ k, k < n → ∃ q : Int, q ≠ 0 ∧ ∀ j, q * W k j = O k j) : EI W O n [] := by
  refine ⟨Nat.zero_le _, fun k hk => by simp at hk, fun k _ hk => ?_, by simp [dt]⟩
  obtain ⟨q, hq, h1⟩ := h k hk
  exact ⟨⟨q, 1, [], hq, by decide, rfl, fun j => by rw [h1 j, lcs_nil]; omega⟩, fun c hc => by simp at hc⟩
theorem EI.swap {W O : Nat → Vc} {n i : Nat} {C : List Nat} (h : EI W O n C) (hi : C.length ≤ i) (hin : i < n) : EI (fun k => W (swp i C.length k)) (fun k => O (swp i C.length k)) n C := by
  have e : (List.range C.length).map (fun k => O (swp i C.length k)) = (List.range C.length).map O := by
    apply List.map_congr_left
    intro k hk
    rw [swp_lt hi (List.mem_range.1 hk)]
  refine ⟨h.tle, fun k hk => ?_, fun k hk hkn => ?_, ?_⟩
  · rw [e]
    simp only [swp_lt hi hk]
    exact h.piv k hk
  · rw [e]
    exact h.non _ (swp_ge hi hk) (swp_bd hin (by omega) hkn)
  · rw [e]; exact h.det
theorem EI.clear {W O V : Nat → Vc} {n c : Nat} {C : List Nat} (h : EI W O n C) (htn : C.length < n) (hc : W C.length c ≠ 0) (ht : V C.length = W C.length)
    (hV : ∀ k, k < n → k ≠ C.length → ∃ a b g : Int, a ≠ 0 ∧ g ≠ 0 ∧ (∀ j, g * V k j = a * W k j - b * W C.length j) ∧ V k c = 0) : EI V O n (C ++ [c]) := by
  obtain ⟨⟨q, μ, m, hq, hμ, hm, h1⟩, hz⟩ := h.non C.length (Nat.le_refl _) htn
  have hI : (List.range (C ++ [c]).length).map O = (List.range C.length).map O ++ [O C.length] := by
    rw [List.length_append, List.length_singleton, List.range_succ, List.map_append]; rfl
  have hIl : ((List.range C.length).map O).length = C.length := by simp
  have hspt : Spn ((List.range C.length).map O ++ [O C.length]) (W C.length) := by
    refine ⟨q, m ++ [μ], hq, by simp [hm], fun j => ?_⟩
    rw [h1 j, lcs_app [μ] [O C.length] (by rw [hm, hIl]), lcs_cons, lcs_nil]; omega
  refine ⟨by simp; omega, fun k hk => ?_, fun k hk hkn => ?_, ?_⟩
  · rw [hI]
    rw [List.length_append, List.length_singleton] at hk
    by_cases hkt : k = C.length
    · subst hkt
      rw [ht]
      refine ⟨hspt, fun j hj hne => ?_, by rw [List.getElem_append_right (by omega)]; simpa using hc⟩
      rw [List.length_append, List.length_singleton] at hj
      rw [List.getElem_append_left (by omega)]
      exact hz _ (List.getElem_mem _)
    · obtain ⟨a, b, g, ha, hg, hv, hvc⟩ := hV k (by omega) hkt
      obtain ⟨hs, hz', hnz⟩ := h.piv k (by omega)
      refine ⟨Spn.add hg hs.ext hspt (a := a) (b := -b) (fun j => by rw [hv j, Int.neg_mul]; omega), fun j hj hne => ?_, ?_⟩
      · rw [List.length_append, List.length_singleton] at hj
        by_cases hjt : j < C.length
        · rw [List.getElem_append_left hjt]
          have e1 := hv C[j]
          rw [hz' j hjt hne, hz _ (List.getElem_mem hjt), Int.mul_zero, Int.mul_zero] at e1
          exact (Int.mul_eq_zero.1 e1).resolve_left hg
        · rw [List.getElem_append_right (by omega)]
          simpa using hvc
      · rw [List.getElem_append_left (by omega)]
        have e1 := hv C[k]
        rw [hz _ (List.getElem_mem (by omega)), Int.mul_zero, Int.sub_zero] at e1
        intro h0
        rw [h0, Int.mul_zero] at e1
        rcases Int.mul_eq_zero.1 e1.symm with h | h
        · exact ha h
        · exact hnz h
  · rw [hI]
    rw [List.length_append, List.length_singleton] at hk ⊢
    obtain ⟨a, b, g, ha, hg, hv, hvc⟩ := hV k hkn (by omega)
    obtain ⟨⟨q', μ', m', hq', hμ', hm', h1'⟩, hz'⟩ := h.non k (by omega) hkn
    refine ⟨⟨q * q' * g, a * q * μ', List.zipWith (fun x y => (a * q) * x + (-(b * q')) * y) m' m ++ [-(b * q') * μ], Int.mul_ne_zero (Int.mul_ne_zero hq hq') hg, Int.mul_ne_zero (Int.mul_ne_zero ha hq) hμ', by simp [hm, hm'], fun j => ?_⟩, fun x hx => ?_⟩
    · rw [lcs_app _ _ (by simp [hm, hm']), lcs_zip (by rw [hm', hIl]) (by rw [hm, hIl]), lcs_cons, lcs_nil, Int.mul_assoc, hv j]
      have e1 := h1 j
      have e2 := h1' j
      generalize lcs m ((List.range C.length).map O) j = s at *
      generalize lcs m' ((List.range C.length).map O) j = s' at *
      have e3 : q * q' * (a * W k j - b * W C.length j) = a * q * (q' * W k j) - b * q' * (q * W C.length j) := by
        rw [Int.mul_sub]
        congr 1 <;> simp only [Int.mul_left_comm, Int.mul_comm, Int.mul_assoc]
      rw [e3, e1, e2]
      simp only [Int.mul_add, Int.neg_mul, Int.mul_assoc]
      omega
    · rcases List.mem_append.1 hx with hx | hx
      · have e1 := hv x
        rw [hz' x hx, hz x hx, Int.mul_zero, Int.mul_zero] at e1
        exact (Int.mul_eq_zero.1 e1).resolve_left hg
      · have : x = c := by simpa using hx
        subst this; exact hvc
  · rw [hI]
    have e1 := dt_put (cs := C ++ [c]) (pre := (List.range C.length).map O) (post := []) (x := O C.length) (w := W C.length) (a := μ) (b := q) (m := m) (n := []) (fun x _ => by rw [h1 x, lcs_nil]; omega)
    have e2 := dt_one (c := c) (cr := []) (u := W C.length) (fun j hj => by simp at hj) [] C ((List.range C.length).map O) hz
    rw [List.append_nil, List.append_nil] at e2
    rw [e2] at e1
    intro h0
    rw [h0, Int.mul_zero] at e1
    exact Int.mul_ne_zero hq (Int.mul_ne_zero (sgn_ne _) (Int.mul_ne_zero hc h.det)) e1

theorem EI.line {W O : Nat → Vc} {n k : Nat} {C : List Nat} (h : EI W O n C) (hk : k < n) :
    ∃ (a b : Int) (cs : List Nat) (R : List Nat), a ≠ 0 ∧ b ≠ 0 ∧ (∀ j, a * W k j = b * dt (j :: cs) (R.map O)) ∧ (R = List.range C.length ∧ k < C.length ∨ C.length ≤ k ∧ R = List.range C.length ++ [k]) := by
  by_cases hkt : k < C.length
  · obtain ⟨⟨q, m, hq, hm, h1⟩, hz, hnz⟩ := h.piv k hkt
    rw [List.length_map, List.length_range] at hm
    have hex : ∃ μ ∈ m, μ ≠ 0 := by
      apply Classical.byContradiction
      intro hno
      have hall : ∀ (m : List Int) (I : List Vc) (j : Nat), (∀ μ ∈ m, μ = 0) → lcs m I j = 0 := by
        intro m
        induction m with
        | nil => intro I j _; exact lcs_nil _ _
        | cons a m ih =>
          intro I j hm
          cases I with
          | nil => exact lcs_nil_r _ _
          | cons r I => rw [lcs_cons, ih I j (fun μ hμ => hm μ (List.mem_cons_of_mem _ hμ)), hm a (List.mem_cons_self ..)]; omega
      have e := h1 C[k]
      rw [hall m _ _ (fun μ hμ => Classical.byContradiction fun hne => hno ⟨μ, hμ, hne⟩)] at e
      exact Int.mul_ne_zero hq hnz e
    obtain ⟨μ, hμm, hμ⟩ := hex
    obtain ⟨m1, m2, rfl⟩ := List.append_of_mem hμm
    have hl1 : m1.length < C.length := by simp at hm; omega
    have hsp : (List.range C.length).map O = ((List.range C.length).take m1.length).map O ++ O m1.length :: ((List.range C.length).drop (m1.length + 1)).map O := by
      rw [← List.map_cons, ← List.map_append]
      congr 1
      conv => lhs; rw [← List.take_append_drop m1.length (List.range C.length)]
      congr 1
      rw [List.drop_eq_getElem_cons (by simpa using hl1)]
      simp
    have hput : ∀ cs, q * dt cs (((List.range C.length).take m1.length).map O ++ W k :: ((List.range C.length).drop (m1.length + 1)).map O) = μ * dt cs ((List.range C.length).map O) := fun cs => by
      rw [hsp]
      refine dt_put (m := m1) (n := m2) fun x _ => ?_
      rw [h1 x, hsp, lcs_app _ _ (by simp; omega), lcs_cons]; omega
    have hC : C = C.take k ++ C[k] :: C.drop (k + 1) := by
      conv => lhs; rw [← List.take_append_drop k C]
      congr 1
      exact List.drop_eq_getElem_cons hkt
    have z1 : ∀ j ∈ C.take k, W k j = 0 := fun j hj => by
      obtain ⟨i, hi, rfl⟩ := List.mem_iff_getElem.1 hj
      rw [List.length_take] at hi
      rw [List.getElem_take]
      exact hz i (by omega) (by omega)
    have z2 : ∀ j ∈ C.drop (k + 1), W k j = 0 := fun j hj => by
      obtain ⟨i, hi, rfl⟩ := List.mem_iff_getElem.1 hj
      rw [List.length_drop] at hi
      rw [List.getElem_drop]
      exact hz _ (by omega) (by omega)
    have hD := hput C
    have hone := dt_one (c := C[k]) (cr := C.drop (k + 1)) (u := W k) z2 (((List.range C.length).drop (m1.length + 1)).map O) (C.take k) (((List.range C.length).take m1.length).map O) z1
    rw [← hC] at hone
    rw [hone] at hD
    have hΔ : dt (C.take k ++ C.drop (k + 1)) (((List.range C.length).take m1.length).map O ++ ((List.range C.length).drop (m1.length + 1)).map O) ≠ 0 := fun h0 => by
      rw [h0, Int.mul_zero, Int.mul_zero, Int.mul_zero] at hD
      exact Int.mul_ne_zero hμ h.det hD.symm
    refine ⟨q * (sgn ((((List.range C.length).take m1.length).map O).length + ([] : List Nat).length) * dt (C.take k ++ C.drop (k + 1)) (((List.range C.length).take m1.length).map O ++ ((List.range C.length).drop (m1.length + 1)).map O)), μ, C.take k ++ C.drop (k + 1), List.range C.length,
      Int.mul_ne_zero hq (Int.mul_ne_zero (sgn_ne _) hΔ), hμ, fun j => ?_, .inl ⟨rfl, hkt⟩⟩
    rw [← hput (j :: (C.take k ++ C.drop (k + 1)))]
    have hone2 := dt_one (c := j) (cr := C.take k ++ C.drop (k + 1)) (u := W k) (fun x hx => by
      rcases List.mem_append.1 hx with hx | hx
      · exact z1 x hx
      · exact z2 x hx) (((List.range C.length).drop (m1.length + 1)).map O) [] (((List.range C.length).take m1.length).map O) (fun x hx => by simp at hx)
    rw [List.nil_append, List.nil_append] at hone2
    rw [hone2]
    simp only [Int.mul_assoc]
    congr 2
    exact Int.mul_comm _ _
  · obtain ⟨⟨q, μ, m, hq, hμ, hm, h1⟩, hz⟩ := h.non k (by omega) hk
    refine ⟨q * (sgn (((List.range C.length).map O).length + ([] : List Nat).length) * dt C ((List.range C.length).map O)), μ, C, List.range C.length ++ [k], Int.mul_ne_zero hq (Int.mul_ne_zero (sgn_ne _) h.det), hμ, fun j => ?_, .inr ⟨by omega, rfl⟩⟩
    have e1 := dt_put (cs := j :: C) (pre := (List.range C.length).map O) (post := []) (x := O k) (w := W k) (a := μ) (b := q) (m := m) (n := []) (fun x _ => by rw [h1 x, lcs_nil]; omega)
    have e2 := dt_one (c := j) (cr := C) (u := W k) hz [] [] ((List.range C.length).map O) (fun x hx => by simp at hx)
    rw [List.nil_append, List.nil_append, List.append_nil] at e2
    rw [List.map_append, List.map_cons, List.map_nil, ← e1, e2]
    simp only [Int.mul_assoc]
    congr 2
    exact Int.mul_comm _ _
end Go.Proofs.Ytfjdfnlkobeehaa
end

section
set_option linter.unusedVariables false
set_option linter.unusedSimpArgs false
namespace Go.Proofs.Ytfjdfnlkobeehaa


def vc (z : List Int) : Vc := fun j => z.getD j 0
theorem vc_lt {z : List Int} {j : Nat} (h : j < z.length) : vc z j = z[j] := by simp [vc, h]
theorem vc_ge {z : List Int} {j : Nat} (h : z.length ≤ j) : vc z j = 0 := by simp [vc, List.getD_eq_getElem?_getD, List.getElem?_eq_none h]

def gcdF (g : Nat) (z : List Int) : Nat := z.foldl (fun g x => Nat.gcd g x.natAbs) g
def gcdL (z : List Int) : Nat := gcdF 0 z
theorem gcdF_nil (g : Nat) : gcdF g [] = g := rfl
theorem gcdF_cons (g : Nat) (x : Int) (z : List Int) : gcdF g (x :: z) = gcdF (Nat.gcd g x.natAbs) z := rfl
theorem gcdF_app (g : Nat) (z w : List Int) : gcdF g (z ++ w) = gcdF (gcdF g z) w := by simp [gcdF, List.foldl_append]
theorem dvd_gcdF {d : Nat} : ∀ {z : List Int} {g : Nat}, d ∣ gcdF g z ↔ d ∣ g ∧ ∀ x ∈ z, d ∣ x.natAbs
  | [], g => by simp [gcdF_nil]
  | x :: z, g => by
    rw [gcdF_cons, dvd_gcdF, Nat.dvd_gcd_iff]
    simp [and_assoc]
theorem dvd_gcdL {d : Nat} {z : List Int} : d ∣ gcdL z ↔ ∀ x ∈ z, d ∣ x.natAbs := by
  rw [gcdL, dvd_gcdF]; simp
theorem gcdL_dvd {z : List Int} {x : Int} (h : x ∈ z) : gcdL z ∣ x.natAbs := dvd_gcdL.1 (Nat.dvd_refl _) x h
theorem gcdL_zero {z : List Int} : gcdL z = 0 ↔ ∀ x ∈ z, x = 0 := by
  constructor
  · intro h x hx
    have := gcdL_dvd hx
    rw [h] at this
    have := Nat.eq_zero_of_zero_dvd this
    omega
  · intro h
    have : (0 : Nat) ∣ gcdL z := dvd_gcdL.2 fun x hx => by rw [h x hx]; exact Nat.dvd_refl 0
    exact Nat.eq_zero_of_zero_dvd this

def primZ (z : List Int) : List Int := z.map (fun x => x / (gcdL z : Nat))
theorem primZ_len (z : List Int) : (primZ z).length = z.length := by simp [primZ]
theorem primZ_vc (z : List Int) (j : Nat) : ((gcdL z : Nat) : Int) * vc (primZ z) j = vc z j := by
  by_cases h : j < z.length
  · rw [vc_lt (by rw [primZ_len]; exact h), vc_lt h]
    simp only [primZ, List.getElem_map]
    exact Int.mul_ediv_cancel' (Int.ofNat_dvd_left.2 (gcdL_dvd (List.getElem_mem h)))
  · rw [vc_ge (by rw [primZ_len]; omega), vc_ge (by omega), Int.mul_zero]

def Prm (z : List Int) : Prop := gcdL z = 1 ∨ ∀ x ∈ z, x = 0
theorem prm_primZ (z : List Int) : Prm (primZ z) := by
  by_cases h : gcdL z = 0
  · right
    intro x hx
    obtain ⟨y, hy, rfl⟩ := List.mem_map.1 hx
    rw [gcdL_zero.1 h y hy]; simp
  · left
    have h1 : gcdL (primZ z) * gcdL z ∣ gcdL z := dvd_gcdL.2 fun x hx => by
      have h2 : x / (gcdL z : Nat) ∈ primZ z := List.mem_map.2 ⟨x, hx, rfl⟩
      have h3 := gcdL_dvd h2
      have h4 : (x / (gcdL z : Nat)) * (gcdL z : Nat) = x := Int.ediv_mul_cancel (Int.ofNat_dvd_left.2 (gcdL_dvd hx))
      have h5 : x.natAbs = (x / (gcdL z : Nat)).natAbs * gcdL z := by
        conv => lhs; rw [← h4, Int.natAbs_mul]
        simp
      rw [h5]
      exact Nat.mul_dvd_mul_right h3 _
    have h6 := Nat.le_of_dvd (Nat.pos_of_ne_zero h) h1
    have h7 : gcdL (primZ z) ≠ 0 := fun h0 => by
      rw [h0, Nat.zero_mul] at h1
      exact h (Nat.eq_zero_of_zero_dvd h1)
    have h8 : gcdL (primZ z) * gcdL z ≤ 1 * gcdL z := by omega
    have := Nat.le_of_mul_le_mul_right h8 (Nat.pos_of_ne_zero h)
    omega

theorem prm_le {z : List Int} {M : Vc} {a b : Int} (hz : Prm z) (ha : a ≠ 0) (hb : b ≠ 0) (h : ∀ j, a * vc z j = b * M j) {j : Nat} (hj : j < z.length) : (vc z j).natAbs ≤ (M j).natAbs := by
  rcases hz with hz | hz
  · have hg : 0 < Nat.gcd b.natAbs a.natAbs := Nat.gcd_pos_of_pos_left _ (by omega)
    have hco := Nat.coprime_div_gcd_div_gcd hg
    have hdb := Nat.div_mul_cancel (Nat.gcd_dvd_left b.natAbs a.natAbs)
    have hda := Nat.div_mul_cancel (Nat.gcd_dvd_right b.natAbs a.natAbs)
    generalize Nat.gcd b.natAbs a.natAbs = g at *
    generalize b.natAbs / g = b' at *
    generalize a.natAbs / g = a' at *
    have key : ∀ i, a' * (vc z i).natAbs = b' * (M i).natAbs := fun i => by
      have := congrArg Int.natAbs (h i)
      rw [Int.natAbs_mul, Int.natAbs_mul, ← hda, ← hdb, Nat.mul_right_comm, Nat.mul_right_comm b'] at this
      exact Nat.eq_of_mul_eq_mul_right hg this
    have hb1 : b' ∣ gcdL z := dvd_gcdL.2 fun x hx => by
      obtain ⟨i, hi, rfl⟩ := List.mem_iff_getElem.1 hx
      refine hco.dvd_of_dvd_mul_left (m := a') ?_
      rw [← vc_lt hi, key i]
      exact Nat.dvd_mul_right _ _
    rw [hz] at hb1
    have hb2 : b' = 1 := Nat.dvd_one.1 hb1
    have ha2 : a' ≠ 0 := fun h0 => by rw [h0, Nat.zero_mul] at hda; omega
    have := key j
    rw [hb2, Nat.one_mul] at this
    rw [← this]
    exact Nat.le_mul_of_pos_left _ (Nat.pos_of_ne_zero ha2)
  · rw [vc_lt hj, hz _ (List.getElem_mem hj)]
    simp


def combZ (a b : Int) (z p : List Int) : List Int := List.zipWith (fun x y => a * x - b * y) z p
theorem combZ_len {a b : Int} {z p : List Int} (h : z.length = p.length) : (combZ a b z p).length = z.length := by simp [combZ, h]
theorem combZ_vc {a b : Int} {z p : List Int} (h : z.length = p.length) (j : Nat) : vc (combZ a b z p) j = a * vc z j - b * vc p j := by
  by_cases hj : j < z.length
  · rw [vc_lt (by rw [combZ_len h]; exact hj), vc_lt hj, vc_lt (by omega)]
    simp [combZ]
  · rw [vc_ge (by rw [combZ_len h]; omega), vc_ge (by omega), vc_ge (by omega)]; simp

def clearZ (z p : List Int) (c : Nat) : List Int :=
  if vc z c = 0 then z else primZ (combZ (vc p c / (Int.gcd (vc z c) (vc p c) : Nat)) (vc z c / (Int.gcd (vc z c) (vc p c) : Nat)) z p)
theorem clearZ_len {z p : List Int} {c : Nat} (h : z.length = p.length) : (clearZ z p c).length = z.length := by
  unfold clearZ; split
  · rfl
  · rw [primZ_len, combZ_len h]
theorem clearZ_prm {z p : List Int} {c : Nat} (h : Prm z) : Prm (clearZ z p c) := by
  unfold clearZ; split
  · exact h
  · exact prm_primZ _
theorem clearZ_line {z p : List Int} {c : Nat} (h : z.length = p.length) (hp : vc p c ≠ 0) :
    ∃ a b g : Int, a ≠ 0 ∧ g ≠ 0 ∧ (∀ j, g * vc (clearZ z p c) j = a * vc z j - b * vc p j) ∧ vc (clearZ z p c) c = 0 := by
  by_cases h0 : vc z c = 0
  · refine ⟨1, 0, 1, by decide, by decide, fun j => ?_, ?_⟩
    · rw [clearZ, if_pos h0]; omega
    · rw [clearZ, if_pos h0]; exact h0
  · have e : clearZ z p c = primZ (combZ (vc p c / (Int.gcd (vc z c) (vc p c) : Nat)) (vc z c / (Int.gcd (vc z c) (vc p c) : Nat)) z p) := by rw [clearZ, if_neg h0]
    have hg : ((Int.gcd (vc z c) (vc p c) : Nat) : Int) ≠ 0 := by
      have := Int.gcd_pos_of_ne_zero_left (vc p c) h0
      omega
    have d1 := Int.ediv_mul_cancel (Int.gcd_dvd_left (vc z c) (vc p c))
    have d2 := Int.ediv_mul_cancel (Int.gcd_dvd_right (vc z c) (vc p c))
    rw [e]
    generalize ((Int.gcd (vc z c) (vc p c) : Nat) : Int) = g at *
    generalize hA : vc p c / g = A at *
    generalize hB : vc z c / g = B at *
    have hA0 : A ≠ 0 := fun h => hp (by rw [← d2, h, Int.zero_mul])
    have hcol : vc (combZ A B z p) c = 0 := by
      rw [combZ_vc h, ← d1, ← d2]
      rw [show A * (B * g) = B * (A * g) by rw [Int.mul_left_comm]]; omega
    have hv := primZ_vc (combZ A B z p)
    by_cases hz : gcdL (combZ A B z p) = 0
    · refine ⟨A, B, 1, hA0, by decide, fun j => ?_, ?_⟩
      · have h1 := hv j
        rw [hz] at h1
        rw [← combZ_vc h, ← h1]
        have h2 : ∀ x ∈ primZ (combZ A B z p), x = 0 := fun x hx => by
          obtain ⟨y, hy, rfl⟩ := List.mem_map.1 hx
          rw [gcdL_zero.1 hz y hy]; simp
        by_cases hj : j < (primZ (combZ A B z p)).length
        · rw [vc_lt hj, h2 _ (List.getElem_mem hj)]; simp
        · rw [vc_ge (by omega)]; simp
      · have h2 : ∀ x ∈ primZ (combZ A B z p), x = 0 := fun x hx => by
          obtain ⟨y, hy, rfl⟩ := List.mem_map.1 hx
          rw [gcdL_zero.1 hz y hy]; simp
        by_cases hj : c < (primZ (combZ A B z p)).length
        · rw [vc_lt hj, h2 _ (List.getElem_mem hj)]
        · rw [vc_ge (by omega)]
    · refine ⟨A, B, (gcdL (combZ A B z p) : Nat), hA0, by omega, fun j => by rw [hv j, combZ_vc h], ?_⟩
      have h1 := hv c
      rw [hcol] at h1
      exact (Int.mul_eq_zero.1 h1).resolve_left (by omega)


def findP (W : List (List Int)) (c r : Nat) : Nat := if h : r < W.length then (if vc (W.getD r []) c ≠ 0 then r else findP W c (r + 1)) else W.length
termination_by W.length - r
theorem findP_le {W : List (List Int)} {c r : Nat} : findP W c r ≤ W.length := by
  rw [findP]
  split
  · split
    · omega
    · exact findP_le
  · exact Nat.le_refl _
termination_by W.length - r
theorem findP_spec {W : List (List Int)} {c r : Nat} (h : findP W c r < W.length) : r ≤ findP W c r ∧ vc (W.getD (findP W c r) []) c ≠ 0 := by
  rw [findP] at h ⊢
  by_cases hr : r < W.length
  · rw [dif_pos hr] at h ⊢
    by_cases hx : vc (W.getD r []) c ≠ 0
    · rw [if_pos hx]; exact ⟨Nat.le_refl _, hx⟩
    · rw [if_neg hx] at h ⊢
      have := findP_spec h
      exact ⟨by omega, this.2⟩
  · rw [dif_neg hr] at h; omega
termination_by W.length - r
theorem findP_none {W : List (List Int)} {c r : Nat} (h : findP W c r = W.length) : ∀ i, r ≤ i → i < W.length → vc (W.getD i []) c = 0 := by
  intro i hi hil
  rw [findP, dif_pos (by omega)] at h
  by_cases hx : vc (W.getD r []) c ≠ 0
  · rw [if_pos hx] at h; omega
  · rw [if_neg hx] at h
    by_cases hir : i = r
    · subst hir; exact Classical.byContradiction hx
    · exact findP_none h i (by omega) hil
termination_by W.length - r
def swapL (W : List (List Int)) (r i : Nat) : List (List Int) := (W.set r (W.getD i [])).set i (W.getD r [])
theorem swapL_len (W : List (List Int)) (r i : Nat) : (swapL W r i).length = W.length := by simp [swapL]
theorem swapL_get {W : List (List Int)} {r i k : Nat} (hr : r < W.length) (hi : i < W.length) (hk : k < W.length) : (swapL W r i).getD k [] = W.getD (swp i r k) [] := by
  unfold swapL swp
  simp only [List.getD_eq_getElem?_getD, List.getElem?_set]
  by_cases h1 : k = i
  · subst h1
    simp [hi]
  · rw [if_neg h1, if_neg (fun e => h1 e.symm)]
    by_cases h2 : k = r
    · subst h2; simp [hr]
    · rw [if_neg h2, if_neg (fun e => h2 e.symm)]
def clearAll (W : List (List Int)) (r c : Nat) : List (List Int) := W.mapIdx fun k z => if k = r then z else clearZ z (W.getD r []) c
theorem clearAll_len (W : List (List Int)) (r c : Nat) : (clearAll W r c).length = W.length := by simp [clearAll]
theorem clearAll_get {W : List (List Int)} {r c k : Nat} (hk : k < W.length) : (clearAll W r c).getD k [] = if k = r then W.getD k [] else clearZ (W.getD k []) (W.getD r []) c := by
  unfold clearAll
  simp [List.getD_eq_getElem?_getD, hk]
def stepE (c : Nat) (s : List (List Int) × List Nat) : List (List Int) × List Nat :=
  if findP s.1 c s.2.length < s.1.length then (clearAll (swapL s.1 s.2.length (findP s.1 c s.2.length)) s.2.length c, s.2 ++ [c]) else s
def echW (rows : List (List Int)) : Nat → List (List Int) × List Nat
  | 0 => (rows.map primZ, [])
  | c + 1 => stepE c (echW rows c)

def sz (κ : Nat → Nat) (n : Nat) : Nat := wsum ((List.range n).map κ)
theorem sz_zero (κ : Nat → Nat) : sz κ 0 = 0 := rfl
theorem sz_succ (κ : Nat → Nat) (n : Nat) : sz κ (n + 1) = sz κ n + (κ n + 1) := by
  unfold sz
  rw [List.range_succ, List.map_append, wsum_app]; rfl
theorem sz_mono {κ : Nat → Nat} {m n : Nat} (h : m ≤ n) : sz κ m ≤ sz κ n := by
  induction n with
  | zero => rw [show m = 0 by omega]; exact Nat.le_refl _
  | succ n ih =>
    rcases Nat.lt_or_ge m (n + 1) with h1 | h1
    · rw [sz_succ]; have := ih (by omega); omega
    · rw [show m = n + 1 by omega]; exact Nat.le_refl _
theorem sz_congr {κ κ' : Nat → Nat} : ∀ {n : Nat}, (∀ k, k < n → κ k = κ' k) → sz κ n = sz κ' n
  | 0, _ => rfl
  | n + 1, h => by rw [sz_succ, sz_succ, sz_congr (fun k hk => h k (by omega)), h n (by omega)]
theorem sz_upd {κ : Nat → Nat} {i x : Nat} : ∀ {n : Nat}, i < n → sz (fun k => if k = i then x else κ k) n + κ i = sz κ n + x
  | 0, h => by omega
  | n + 1, h => by
    rw [sz_succ, sz_succ]
    by_cases hi : i = n
    · subst hi
      rw [if_pos rfl, sz_congr (κ' := κ) (fun k hk => if_neg (by omega))]; omega
    · have := sz_upd (κ := κ) (i := i) (x := x) (n := n) (by omega)
      rw [if_neg (fun e => hi e.symm)]; omega
theorem sz_swp {κ : Nat → Nat} {i t n : Nat} (hi : i < n) (ht : t < n) : sz (fun k => κ (swp i t k)) n = sz κ n := by
  by_cases hit : i = t
  · subst hit
    refine sz_congr fun k _ => ?_
    unfold swp; split
    · rename_i h; rw [h]
    · rfl
  · have h1 := sz_upd (κ := κ) (i := t) (x := κ i) ht
    have h2 := sz_upd (κ := fun k => if k = t then κ i else κ k) (i := i) (x := κ t) hi
    simp only [if_neg hit] at h2
    have h3 : sz (fun k => κ (swp i t k)) n = sz (fun k => if k = i then κ t else if k = t then κ i else κ k) n := sz_congr fun k _ => by
      unfold swp; split
      · rfl
      · split <;> rfl
    omega

structure EZ (β B n cols : Nat) (s : List (List Int) × List Nat) : Prop where
  len : s.1.length = n
  row : ∀ k, k < n → (s.1.getD k []).length = cols ∧ Prm (s.1.getD k [])
  st : ∃ (O : Nat → Vc) (κ : Nat → Nat), EI (fun k => vc (s.1.getD k [])) O n s.2 ∧ (∀ k, k < n → ∀ j, (O k j).natAbs ≤ β ^ κ k) ∧ sz κ n ≤ B
theorem Bd_range {β : Nat} {cs : List Nat} {O : Nat → Vc} {κ : Nat → Nat} : ∀ (R : List Nat), (∀ k ∈ R, ∀ j, (O k j).natAbs ≤ β ^ κ k) → Bd β cs (R.map O) (R.map κ)
  | [], _ => trivial
  | k :: R, h => ⟨fun c _ => h k (List.mem_cons_self ..) c, Bd_range R fun x hx => h x (List.mem_cons_of_mem _ hx)⟩

theorem EZ.short {β B n cols : Nat} {s : List (List Int) × List Nat} (h : EZ β B n cols s) (hn : n ≤ β) (hβ : 1 ≤ β) {k : Nat} (hk : k < n) (x : Int) (hx : x ∈ s.1.getD k []) : x.natAbs ≤ β ^ B := by
  obtain ⟨O, κ, hE, hO, hB⟩ := h.st
  obtain ⟨a, b, cs, R, ha, hb, hl, hR⟩ := hE.line hk
  obtain ⟨hlen, hprm⟩ := h.row k hk
  obtain ⟨j, hj, rfl⟩ := List.mem_iff_getElem.1 hx
  have htn := hE.tle
  have h1 := prm_le hprm ha hb hl hj
  rw [vc_lt hj] at h1
  have hRb : ∀ r ∈ R, r < n := by
    intro r hr
    rcases hR with ⟨rfl, h2⟩ | ⟨h2, rfl⟩
    · have := List.mem_range.1 hr; omega
    · rcases List.mem_append.1 hr with hr | hr
      · have := List.mem_range.1 hr; omega
      · have : r = k := by simpa using hr
        omega
  have hRl : R.length ≤ n := by
    rcases hR with ⟨rfl, h2⟩ | ⟨h2, rfl⟩
    · simpa using htn
    · simp; omega
  have h2 := dt_bound (j :: cs) (R.map O) (R.map κ) (Bd_range R fun r hr => hO r (hRb r hr)) (by simp; omega)
  have h3 : wsum (R.map κ) ≤ sz κ n := by
    rcases hR with ⟨rfl, h2⟩ | ⟨h2, rfl⟩
    · exact sz_mono htn
    · rw [List.map_append, wsum_app]
      have : wsum ([k].map κ) = κ k + 1 := by simp [wsum]
      rw [this]
      have h4 := sz_mono (κ := κ) (show s.2.length ≤ k by omega)
      have h5 := sz_mono (κ := κ) (show k + 1 ≤ n by omega)
      rw [sz_succ] at h5
      unfold sz at h4 h5 ⊢
      omega
  exact Nat.le_trans h1 (Nat.le_trans h2 (Nat.pow_le_pow_right hβ (Nat.le_trans h3 hB)))
theorem EZ.start {β B cols : Nat} {rows : List (List Int)} {κ : Nat → Nat} (hc : ∀ z ∈ rows, z.length = cols) (hk : ∀ k, k < rows.length → ∀ x ∈ rows.getD k [], x.natAbs ≤ β ^ κ k) (hB : sz κ rows.length ≤ B) : EZ β B rows.length cols (rows.map primZ, []) := by
  have hg : ∀ k, k < rows.length → (rows.map primZ).getD k [] = primZ (rows.getD k []) := fun k hk => by simp [List.getD_eq_getElem?_getD, hk]
  refine ⟨by simp, fun k hk => ?_, fun k => vc (rows.getD k []), κ, EI.start fun k hk => ?_, fun k hkn j => ?_, hB⟩
  · simp only [hg k hk]
    exact ⟨by rw [primZ_len]; exact hc _ (by simp [List.getD_eq_getElem?_getD, hk]), prm_primZ _⟩
  · simp only [hg k hk]
    by_cases h0 : gcdL (rows.getD k []) = 0
    · refine ⟨1, by decide, fun j => ?_⟩
      have h2 := gcdL_zero.1 h0
      have h1 := primZ_vc (rows.getD k []) j
      rw [h0] at h1
      rw [← h1]
      by_cases hj : j < (primZ (rows.getD k [])).length
      · have hj' := hj
        rw [primZ_len] at hj'
        rw [vc_lt hj]
        simp only [primZ, List.getElem_map]
        rw [h2 _ (List.getElem_mem hj')]; simp
      · rw [vc_ge (by omega)]; simp
    · exact ⟨(gcdL (rows.getD k []) : Nat), by omega, fun j => primZ_vc _ j⟩
  · show (vc (rows.getD k []) j).natAbs ≤ _
    by_cases hj : j < (rows.getD k []).length
    · rw [vc_lt hj]; exact hk k hkn _ (List.getElem_mem hj)
    · rw [vc_ge (by omega)]; simp
theorem EZ.step {β B n cols c : Nat} {s : List (List Int) × List Nat} (h : EZ β B n cols s) : EZ β B n cols (stepE c s) := by
  unfold stepE
  by_cases hf : findP s.1 c s.2.length < s.1.length
  · rw [if_pos hf]
    obtain ⟨hge, hne⟩ := findP_spec hf
    have hlen := h.len
    generalize findP s.1 c s.2.length = i at *
    obtain ⟨O, κ, hE, hO, hB⟩ := h.st
    have hin : i < n := by omega
    have htn : s.2.length < n := by omega
    have hS := hE.swap hge hin
    have hg1 : ∀ k, k < n → (swapL s.1 s.2.length i).getD k [] = s.1.getD (swp i s.2.length k) [] := fun k hk => swapL_get (by omega) (by omega) (by omega)
    have hg2 : ∀ k, k < n → (clearAll (swapL s.1 s.2.length i) s.2.length c).getD k [] = if k = s.2.length then s.1.getD (swp i s.2.length k) [] else clearZ (s.1.getD (swp i s.2.length k) []) (s.1.getD i []) c := fun k hk => by
      rw [clearAll_get (by rw [swapL_len]; omega), hg1 k hk, hg1 _ htn, swp_t]
    have hrow : ∀ k, k < n → (s.1.getD (swp i s.2.length k) []).length = cols ∧ Prm (s.1.getD (swp i s.2.length k) []) := fun k hk => h.row _ (swp_bd hin htn hk)
    refine ⟨by rw [clearAll_len, swapL_len]; exact hlen, fun k hk => ?_, fun k => O (swp i s.2.length k), fun k => κ (swp i s.2.length k), ?_, fun k hk j => hO _ (swp_bd hin htn hk) j, by rw [sz_swp hin htn]; exact hB⟩
    · rw [hg2 k hk]
      obtain ⟨h1, h2⟩ := hrow k hk
      split
      · exact ⟨h1, h2⟩
      · exact ⟨by rw [clearZ_len (by rw [h1, (h.row i hin).1])]; exact h1, clearZ_prm h2⟩
    · refine EI.clear hS htn (c := c) ?_ ?_ ?_
      · simp only [swp_t]; exact hne
      · simp only [hg2 _ htn, if_pos]
      · intro k hk hkt
        simp only [hg2 k hk, if_neg hkt, swp_t]
        exact clearZ_line (by rw [(hrow k hk).1, (h.row i hin).1]) hne
  · rw [if_neg hf]; exact h
theorem EZ.all {β B cols : Nat} {rows : List (List Int)} {κ : Nat → Nat} (hc : ∀ z ∈ rows, z.length = cols) (hk : ∀ k, k < rows.length → ∀ x ∈ rows.getD k [], x.natAbs ≤ β ^ κ k) (hB : sz κ rows.length ≤ B) : ∀ c, EZ β B rows.length cols (echW rows c)
  | 0 => .start hc hk hB
  | c + 1 => (EZ.all hc hk hB c).step
end Go.Proofs.Ytfjdfnlkobeehaa
end

section
set_option linter.unusedVariables false
set_option linter.unusedSimpArgs false
namespace Go.Proofs.Ytfjdfnlkobeehaa

theorem RepL.length {E : En} : ∀ {cs : List PV} {vs : List Value}, RepL E cs vs → cs.length = vs.length
  | [], [], _ => rfl
  | _ :: _, _ :: _, h => by simp only [RepL] at h; simp [RepL.length h.2]
  | [], _ :: _, h => by simp [RepL] at h
  | _ :: _, [], h => by simp [RepL] at h

theorem RepL.get {E : En} : ∀ {cs : List PV} {vs : List Value}, RepL E cs vs → ∀ (i : Nat) (c : PV), cs[i]? = some c → ∃ v, vs[i]? = some v ∧ Rep E c v
  | [], [], _, i, c, hc => by simp at hc
  | p :: ps, v :: vs, h, 0, c, hc => by simp only [RepL] at h; simp at hc; subst hc; exact ⟨v, by simp, h.1⟩
  | p :: ps, v :: vs, h, i + 1, c, hc => by simp only [RepL] at h; simp at hc; obtain ⟨x, hx, hr⟩ := RepL.get h.2 i c hc; exact ⟨x, by simpa using hx, hr⟩
  | [], _ :: _, h, _, _, _ => by simp [RepL] at h
  | _ :: _, [], h, _, _, _ => by simp [RepL] at h

theorem RepL.append {E : En} : ∀ {cs ds : List PV} {vs us : List Value}, RepL E cs vs → RepL E ds us → RepL E (cs ++ ds) (vs ++ us)
  | [], _, [], _, _, h2 => h2
  | _ :: _, _, _ :: _, _, h, h2 => by simp only [RepL, List.cons_append] at h ⊢; exact ⟨h.1, RepL.append h.2 h2⟩
  | [], _, _ :: _, _, h, _ => by simp [RepL] at h
  | _ :: _, _, [], _, h, _ => by simp [RepL] at h

theorem RepL.drop {E : En} : ∀ {cs : List PV} {vs : List Value} (k : Nat), RepL E cs vs → RepL E (cs.drop k) (vs.drop k)
  | _, _, 0, h => by simpa using h
  | [], [], _ + 1, _ => by simp [RepL]
  | _ :: cs, _ :: vs, k + 1, h => by simp only [RepL] at h; simpa using RepL.drop k h.2
  | [], _ :: _, _ + 1, h => by simp [RepL] at h
  | _ :: _, [], _ + 1, h => by simp [RepL] at h

theorem RepL.take {E : En} : ∀ {cs : List PV} {vs : List Value} (k : Nat), RepL E cs vs → RepL E (cs.take k) (vs.take k)
  | _, _, 0, _ => by simp [RepL]
  | [], [], _ + 1, _ => by simp [RepL]
  | _ :: cs, _ :: vs, k + 1, h => by simp only [RepL] at h; simp only [List.take_succ_cons, RepL]; exact ⟨h.1, RepL.take k h.2⟩
  | [], _ :: _, _ + 1, h => by simp [RepL] at h
  | _ :: _, [], _ + 1, h => by simp [RepL] at h

theorem RepL.vals {E : En} : ∀ (vs : List Value), RepL E (vs.map .val) vs
  | [] => by simp [RepL]
  | v :: vs => by simp [RepL, Rep, RepL.vals vs]

theorem cell_of {w : World} {b o : Nat} {c : Array Value} {e : TypeId} {f : Nat × Nat} (h : w.heap[b]? = some (.cells c e f)) :
    w.cell? ⟨b, o, none⟩ = c[o]? := by simp [World.cell?, h]


theorem Row.of_block {E : En} {b : Nat} {c : Array Value} {e : TypeId} {f : Nat × Nat} (h : E.w.heap[b]? = some (.cells c e f)) :
    ∀ (cs : List PV) (o : Nat) (vs : List Value), RepL E cs vs → (∀ i, i < vs.length → c[o + i]? = vs[i]?) → Row E b o cs
  | [], _, _, _, _ => by simp [Row]
  | p :: ps, o, v :: vs, hr, hc => by
    simp only [RepL] at hr
    simp only [Row]
    refine ⟨⟨v, ?_, hr.1⟩, Row.of_block h ps (o + 1) vs hr.2 fun i hi => ?_⟩
    · have := hc 0 (by simp); rw [cell_of h]; simpa using this
    · have := hc (i + 1) (by simp; omega)
      rw [show o + 1 + i = o + (i + 1) from by omega, this]; simp
  | _ :: _, _, [], hr, _ => by simp [RepL] at hr

theorem Row.drop {E : En} {b : Nat} : ∀ {cs : List PV} {o : Nat} (k : Nat), Row E b o cs → Row E b (o + k) (cs.drop k)
  | _, _, 0, h => by simpa using h
  | [], _, _ + 1, _ => by simp [Row]
  | _ :: cs, o, k + 1, h => by
    simp only [Row] at h
    have := Row.drop (cs := cs) (o := o + 1) k h.2
    rw [show o + 1 + k = o + (k + 1) from by omega] at this
    simpa using this

theorem Row.take {E : En} {b : Nat} : ∀ {cs : List PV} {o : Nat} (k : Nat), Row E b o cs → Row E b o (cs.take k)
  | _, _, 0, _ => by simp [Row]
  | [], _, _ + 1, _ => by simp [Row]
  | _ :: cs, o, k + 1, h => by
    simp only [Row] at h
    simp only [List.take_succ_cons, Row]
    exact ⟨h.1, Row.take k h.2⟩


theorem Row.vals {E : En} {b : Nat} : ∀ {cs : List PV} {o : Nat}, Row E b o cs → ∃ vs, RepL E cs vs ∧ ∀ i, i < vs.length → E.w.cell? ⟨b, o + i, none⟩ = vs[i]?
  | [], _, _ => ⟨[], by simp [RepL], by simp⟩
  | c :: cs, o, h => by
    simp only [Row] at h
    obtain ⟨⟨v, hv, hr⟩, hs⟩ := h
    obtain ⟨vs, hrs, hc⟩ := Row.vals hs
    refine ⟨v :: vs, by simp only [RepL]; exact ⟨hr, hrs⟩, fun i hi => ?_⟩
    cases i with
    | zero => simpa using hv
    | succ i =>
      have := hc i (by simpa using hi)
      rw [show o + (i + 1) = o + 1 + i from by omega, this]; simp

structure PS where
  sl : Nat → PV
  H : Nat → Option (List PV)
  it : Nat → Option (ByteArray × Nat)
  nx : Nat

def upd {α : Type} (f : Nat → α) (i : Nat) (x : α) : Nat → α := fun j => if j = i then x else f j

theorem upd_self {α : Type} (f : Nat → α) (i : Nat) (x : α) : upd f i x i = x := by simp [upd]
theorem upd_ne {α : Type} (f : Nat → α) {i j : Nat} (x : α) (h : j ≠ i) : upd f i x j = f j := by simp [upd, h]

def PS.ev (st : PS) : Operand → PV
  | .tmp t => st.sl t
  | .const v => .val v
  | .global g => .val (.pointer (some ⟨g, 0, none⟩))
  | .func f => .fn f []

def PS.put (st : PS) (d : Option Nat) (p : PV) : PS :=
  match d with
  | some d => { st with sl := upd st.sl d p }
  | none => st

def Live (H : Nat → Option (List PV)) (it : Nat → Option (ByteArray × Nat)) (i : Nat) : Prop := (∃ cs, H i = some cs ∧ cs ≠ []) ∨ it i ≠ none
def OwnB (ρ : Nat → Nat) (H : Nat → Option (List PV)) (it : Nat → Option (ByteArray × Nat)) (b : Nat) : Prop := ∃ i, Live H it i ∧ ρ i = b


structure Cx where
  F : Nat → Prop
  w0 : World
  A0 : Nat → Prop
  ρ0 : Nat → Nat
  k : Nat
  n : Nat
  tb : List (Nat × List (Nat × List Nat))


abbrev enOf (A0 : Nat → Prop) (w : World) (ρ : Nat → Nat) (H : Nat → Option (List PV)) (it : Nat → Option (ByteArray × Nat)) (nx : Nat) : En :=
  ⟨w, ρ, nx, fun b => A0 b ∨ OwnB ρ H it b⟩

structure OwnOK (F A0 : Nat → Prop) (w : World) (ρ : Nat → Nat) (H : Nat → Option (List PV)) (it : Nat → Option (ByteArray × Nat)) (nx : Nat) : Prop where
  bound : ∀ i, (H i ≠ none ∨ it i ≠ none) → i < nx
  excl : ∀ i cs, H i = some cs → cs ≠ [] → it i = none
  inj : ∀ i j, Live H it i → Live H it j → ρ i = ρ j → i = j
  blk : ∀ i cs, H i = some cs → cs ≠ [] → ∃ (vs : Array Value) (e : TypeId), w.heap[ρ i]? = some (.cells vs e (0, 0)) ∧ RepL (enOf A0 w ρ H it nx) cs vs.toList
  itb : ∀ i s p, it i = some (s, p) → w.heap[ρ i]? = some (.stringIter s p)
  out : ∀ i, Live H it i → ¬ F (ρ i) ∧ ¬ A0 (ρ i)


def Sw (w w' : World) : Prop := w'.os = w.os ∧ w'.tape = w.tape ∧ w'.output = w.output
theorem Sw.refl (w : World) : Sw w w := ⟨rfl, rfl, rfl⟩
theorem Sw.trans {w1 w2 w3 : World} (h : Sw w1 w2) (h' : Sw w2 w3) : Sw w1 w3 := ⟨h'.1.trans h.1, h'.2.1.trans h.2.1, h'.2.2.trans h.2.2⟩

structure Rr (c : Cx) (st : PS) (a : Act) (w : World) (ρ : Nat → Nat) : Prop where
  own : OwnOK c.F c.A0 w ρ st.H st.it st.nx
  slots : ∀ t, Rep (enOf c.A0 w ρ st.H st.it st.nx) (st.sl t) (a.tmps.getD t undef)
  size : a.tmps.size = c.n
  defers : a.defers = []
  frame : ∀ b, c.F b → w.heap[b]? = c.w0.heap[b]?
  grow : c.w0.heap.size ≤ w.heap.size
  ids : c.k ≤ st.nx
  ρk : ∀ i, i < c.k → ρ i = c.ρ0 i
  fF : ∀ b, c.F b → b < c.w0.heap.size
  fA : ∀ b, c.A0 b → b < c.w0.heap.size
  sw : Sw c.w0 w

def R (c : Cx) (st : PS) (a : Act) (w : World) : Prop := ∃ ρ, Rr c st a w ρ

theorem lt_of_heap {w : World} {b : Nat} {o : Obj} (h : w.heap[b]? = some o) : b < w.heap.size := by
  rcases Nat.lt_or_ge b w.heap.size with h' | h'
  · exact h'
  · simp [Array.getElem?_eq_none h'] at h

theorem lt_of_cell {w : World} {b o : Nat} {v : Value} (h : w.cell? ⟨b, o, none⟩ = some v) : b < w.heap.size := by
  unfold World.cell? at h
  cases hb : w.heap[b]? with
  | none => simp [hb] at h
  | some x => exact lt_of_heap hb

theorem cell_congr {w w' : World} {b o : Nat} (h : w'.heap[b]? = w.heap[b]?) : w'.cell? ⟨b, o, none⟩ = w.cell? ⟨b, o, none⟩ := by
  simp only [World.cell?]
  rw [h]

theorem OwnOK.lt {F A0 : Nat → Prop} {w : World} {ρ : Nat → Nat} {H : Nat → Option (List PV)} {it : Nat → Option (ByteArray × Nat)} {nx : Nat}
    (h : OwnOK F A0 w ρ H it nx) {i : Nat} (hl : Live H it i) : ρ i < w.heap.size := by
  rcases hl with ⟨cs, hc, hne⟩ | hi
  · obtain ⟨vs, e, hb, _⟩ := h.blk i cs hc hne
    exact lt_of_heap hb
  · obtain ⟨⟨s, p⟩, hi'⟩ := Option.ne_none_iff_exists'.1 hi
    exact lt_of_heap (h.itb i s p hi')

theorem Live.lt {F A0 : Nat → Prop} {w : World} {ρ : Nat → Nat} {H : Nat → Option (List PV)} {it : Nat → Option (ByteArray × Nat)} {nx : Nat}
    (h : OwnOK F A0 w ρ H it nx) {i : Nat} (hl : Live H it i) : i < nx := by
  rcases hl with ⟨cs, hc, _⟩ | hi
  · exact h.bound i (.inl (by simp [hc]))
  · exact h.bound i (.inr hi)


theorem Rr.heap {c : Cx} {st : PS} {a : Act} {w w' : World} {ρ : Nat → Nat} (h : Rr c st a w ρ) (hw : w'.heap = w.heap) (hs : Sw w w' := by exact ⟨rfl, rfl, rfl⟩) : Rr c st a w' ρ := by
  have hle : En.le (enOf c.A0 w ρ st.H st.it st.nx) (enOf c.A0 w' ρ st.H st.it st.nx) :=
    ⟨fun b o v _ hv => (cell_congr (by rw [hw])).trans hv, fun _ _ _ hA _ => hA, Nat.le_refl _, fun _ _ => rfl⟩
  refine ⟨⟨h.own.bound, h.own.excl, h.own.inj, fun i cs hc hne => ?_, fun i s p hi => ?_, h.own.out⟩, fun t => Rep.mono hle _ _ (h.slots t), h.size, h.defers,
    fun b hb => by rw [hw]; exact h.frame b hb, by rw [hw]; exact h.grow, h.ids, h.ρk, h.fF, h.fA, h.sw.trans hs⟩
  · obtain ⟨vs, e, hb, hr⟩ := h.own.blk i cs hc hne
    exact ⟨vs, e, by rw [hw]; exact hb, RepL.mono hle _ _ hr⟩
  · rw [hw]; exact h.own.itb i s p hi

theorem R.heap {c : Cx} {st : PS} {a : Act} {w w' : World} (h : R c st a w) (hw : w'.heap = w.heap) (hs : Sw w w' := by exact ⟨rfl, rfl, rfl⟩) : R c st a w' := h.imp fun _ h => h.heap hw hs


theorem Rr.put {c : Cx} {st : PS} {a : Act} {w : World} {ρ : Nat → Nat} (h : Rr c st a w ρ) {d : Option Nat} (hd : ∀ x, d = some x → x < c.n) {p : PV} {v : Value}
    (hr : Rep (enOf c.A0 w ρ st.H st.it st.nx) p v) : Rr c (st.put d p) (a.put d v) w ρ := by
  cases d with
  | none => exact h
  | some d =>
    have hd := hd d rfl
    refine ⟨h.own, fun t => ?_, by simp [Act.put, h.size], by simp [Act.put, h.defers], h.frame, h.grow, h.ids, h.ρk, h.fF, h.fA, h.sw⟩
    simp only [PS.put, Act.put]
    by_cases ht : t = d
    · subst ht
      rw [upd_self]
      have : (a.tmps.setIfInBounds t v).getD t undef = v := by
        simp [h.size, hd]
      rw [this]; exact hr
    · rw [upd_ne _ _ ht]
      have : (a.tmps.setIfInBounds d v).getD t undef = a.tmps.getD t undef := by
        simp [Ne.symm ht]
      rw [this]; exact h.slots t

theorem Rr.ev {c : Cx} {st : PS} {a : Act} {w : World} {ρ : Nat → Nat} (h : Rr c st a w ρ) (x : Operand) : Rep (enOf c.A0 w ρ st.H st.it st.nx) (st.ev x) (a.eval x) := by
  cases x with
  | tmp t => exact h.slots t
  | const v => simp [PS.ev, Act.eval, Rep]
  | global g => simp [PS.ev, Act.eval, Rep]
  | func f => exact ⟨[], by simp [Act.eval], by simp [RepL]⟩


theorem Rr.new {c : Cx} {st : PS} {a : Act} {w : World} {ρ : Nat → Nat} (h : Rr c st a w ρ) {cs : List PV} {vs : Array Value} {e : TypeId}
    (hr : RepL (enOf c.A0 w ρ st.H st.it st.nx) cs vs.toList) {w' : World} (hw : w'.heap = w.heap.push (.cells vs e (0, 0))) (hs : Sw w w' := by exact ⟨rfl, rfl, rfl⟩) :
    Rr c { st with H := upd st.H st.nx (some cs), nx := st.nx + 1 } a w' (upd ρ st.nx w.heap.size) := by
  have hnone : st.H st.nx = none := by
    cases hc : st.H st.nx with
    | none => rfl
    | some x => exact absurd (h.own.bound st.nx (.inl (by simp [hc]))) (Nat.lt_irrefl _)
  have hit : st.it st.nx = none := by
    cases hc : st.it st.nx with
    | none => rfl
    | some x => exact absurd (h.own.bound st.nx (.inr (by simp [hc]))) (Nat.lt_irrefl _)
  have hold : ∀ b, b < w.heap.size → w'.heap[b]? = w.heap[b]? := fun b hb => by
    rw [hw, Array.getElem?_push]; simp [Nat.ne_of_lt hb]
  have hlive : ∀ i, Live (upd st.H st.nx (some cs)) st.it i → (i = st.nx ∧ cs ≠ []) ∨ (i ≠ st.nx ∧ i < st.nx ∧ Live st.H st.it i) := by
    intro i hl
    by_cases hi : i = st.nx
    · subst hi
      rcases hl with ⟨ds, hd, hne⟩ | hx
      · rw [upd_self] at hd; simp at hd; subst hd; exact .inl ⟨rfl, hne⟩
      · exact absurd hit hx
    · have hl' : Live st.H st.it i := by
        rcases hl with ⟨ds, hd, hne⟩ | hx
        · rw [upd_ne _ _ hi] at hd; exact .inl ⟨ds, hd, hne⟩
        · exact .inr hx
      exact .inr ⟨hi, Live.lt h.own hl', hl'⟩
  have hle : En.le (enOf c.A0 w ρ st.H st.it st.nx) (enOf c.A0 w' (upd ρ st.nx w.heap.size) (upd st.H st.nx (some cs)) st.it (st.nx + 1)) := by
    refine ⟨fun b o v _ hv => ?_, fun b o v hA hv hA' => ?_, Nat.le_succ _, fun i hi => upd_ne _ _ (Nat.ne_of_lt hi)⟩
    · exact (cell_congr (hold b (lt_of_cell hv))).trans hv
    · rcases hA' with h0 | ⟨i, hl, hb⟩
      · exact hA (.inl h0)
      · rcases hlive i hl with ⟨hi, _⟩ | ⟨hi, _, hl'⟩
        · subst hi; rw [upd_self] at hb; have := lt_of_cell hv; simp at this; omega
        · rw [upd_ne _ _ hi] at hb; exact hA (.inr ⟨i, hl', hb⟩)
  refine ⟨⟨fun i hi => ?_, fun i ds hd hne => ?_, fun i j hi hj he => ?_, fun i ds hd hne => ?_, fun i s p hi => ?_, fun i hi => ?_⟩, fun t => Rep.mono hle _ _ (h.slots t), h.size, h.defers,
    fun b hb => ?_, ?_, Nat.le_succ_of_le h.ids, fun i hi => ?_, h.fF, h.fA, h.sw.trans hs⟩
  · by_cases hx : i = st.nx
    · exact hx ▸ Nat.lt_succ_self _
    · simp only [upd_ne _ _ hx] at hi; exact Nat.lt_succ_of_lt (h.own.bound i hi)
  · by_cases hx : i = st.nx
    · subst hx; exact hit
    · simp only [upd_ne _ _ hx] at hd; exact h.own.excl i _ hd hne
  · rcases hlive i hi with ⟨h1, _⟩ | ⟨h1, _, hl1⟩ <;> rcases hlive j hj with ⟨h2, _⟩ | ⟨h2, _, hl2⟩
    · omega
    · subst h1; rw [upd_self, upd_ne _ _ h2] at he; have := h.own.lt hl2; omega
    · subst h2; rw [upd_self, upd_ne _ _ h1] at he; have := h.own.lt hl1; omega
    · rw [upd_ne _ _ h1, upd_ne _ _ h2] at he; exact h.own.inj i j hl1 hl2 he
  · have hd : upd st.H st.nx (some cs) i = some ds := hd
    by_cases hx : i = st.nx
    · subst hx
      rw [upd_self] at hd; simp at hd; subst hd
      refine ⟨vs, e, ?_, RepL.mono hle _ _ hr⟩
      rw [upd_self, hw]; simp
    · rw [upd_ne _ _ hx] at hd
      obtain ⟨us, e', hb, hr'⟩ := h.own.blk i ds hd hne
      exact ⟨us, e', by rw [upd_ne _ _ hx, hold _ (lt_of_heap hb)]; exact hb, RepL.mono hle _ _ hr'⟩
  · have hx : i ≠ st.nx := fun e => by subst e; simp [hit] at hi
    have := h.own.itb i s p hi
    rw [upd_ne _ _ hx, hold _ (lt_of_heap this)]; exact this
  · rcases hlive i hi with ⟨h1, _⟩ | ⟨h1, _, hl1⟩
    · subst h1; rw [upd_self]
      exact ⟨fun hF => by have := h.fF _ hF; have := h.grow; omega, fun hA => by have := h.fA _ hA; have := h.grow; omega⟩
    · rw [upd_ne _ _ h1]; exact h.own.out i hl1
  · rw [hold b (Nat.lt_of_lt_of_le (h.fF b hb) h.grow)]; exact h.frame b hb
  · rw [hw]; simp; have := h.grow; omega
  · rw [upd_ne _ _ (Nat.ne_of_lt (Nat.lt_of_lt_of_le hi h.ids))]; exact h.ρk i hi


theorem Rr.set {c : Cx} {st : PS} {a : Act} {w : World} {ρ : Nat → Nat} (h : Rr c st a w ρ) {id : Nat} {cs cs' : List PV} (hc : st.H id = some cs) (hne : cs ≠ [])
    {vs : Array Value} {e : TypeId} (hr : RepL (enOf c.A0 w ρ st.H st.it st.nx) cs' vs.toList) (hne' : cs' ≠ [])
    {w' : World} (hw : w'.heap = w.heap.setIfInBounds (ρ id) (.cells vs e (0, 0))) (hs : Sw w w' := by exact ⟨rfl, rfl, rfl⟩) :
    Rr c { st with H := upd st.H id (some cs') } a w' ρ := by
  have hid : Live st.H st.it id := .inl ⟨cs, hc, hne⟩
  have hold : ∀ b, b ≠ ρ id → w'.heap[b]? = w.heap[b]? := fun b hb => by
    rw [hw, Array.getElem?_setIfInBounds]; simp [Ne.symm hb]
  have hlive : ∀ i, Live (upd st.H id (some cs')) st.it i ↔ Live st.H st.it i := by
    intro i
    by_cases hi : i = id
    · subst hi; exact ⟨fun _ => hid, fun _ => .inl ⟨cs', upd_self _ _ _, hne'⟩⟩
    · unfold Live; rw [upd_ne _ _ hi]
  have hA : ∀ b, (c.A0 b ∨ OwnB ρ (upd st.H id (some cs')) st.it b) ↔ (c.A0 b ∨ OwnB ρ st.H st.it b) := by
    intro b; unfold OwnB; simp only [hlive]
  have hle : En.le (enOf c.A0 w ρ st.H st.it st.nx) (enOf c.A0 w' ρ (upd st.H id (some cs')) st.it st.nx) := by
    refine ⟨fun b o v hn hv => ?_, fun b o v hn hv hA' => hn ((hA b).1 hA'), Nat.le_refl _, fun i hi => rfl⟩
    exact (cell_congr (hold b fun e => hn (.inr ⟨id, hid, e.symm⟩))).trans hv
  have hlt := h.own.lt hid
  refine ⟨⟨fun i hi => ?_, fun i ds hd hnd => ?_, fun i j hi hj he => ?_, fun i ds hd hnd => ?_, fun i s p hi => ?_, fun i hi => ?_⟩, fun t => Rep.mono hle _ _ (h.slots t), h.size, h.defers,
    fun b hb => ?_, ?_, h.ids, h.ρk, h.fF, h.fA, h.sw.trans hs⟩
  · by_cases hx : i = id
    · subst hx; exact h.own.bound i (.inl (by simp [hc]))
    · simp only [upd_ne _ _ hx] at hi; exact h.own.bound i hi
  · by_cases hx : i = id
    · subst hx; exact h.own.excl i _ hc hne
    · simp only [upd_ne _ _ hx] at hd; exact h.own.excl i _ hd hnd
  · exact h.own.inj i j ((hlive i).1 hi) ((hlive j).1 hj) he
  · have hd : upd st.H id (some cs') i = some ds := hd
    by_cases hx : i = id
    · subst hx
      rw [upd_self] at hd; simp at hd; subst hd
      exact ⟨vs, e, by rw [hw, Array.getElem?_setIfInBounds]; simp [hlt], RepL.mono hle _ _ hr⟩
    · rw [upd_ne _ _ hx] at hd
      obtain ⟨us, e', hb, hr'⟩ := h.own.blk i ds hd hnd
      exact ⟨us, e', by rw [hold _ fun e => hx (h.own.inj i id (.inl ⟨ds, hd, hnd⟩) hid e)]; exact hb, RepL.mono hle _ _ hr'⟩
  · have hi : st.it i = some (s, p) := hi
    have := h.own.itb i s p hi
    rw [hold _ fun e => ?_]; exact this
    have := h.own.inj i id (.inr (by simp [hi])) hid e
    subst this
    have := h.own.excl i _ hc hne; simp [this] at hi
  · exact h.own.out i ((hlive i).1 hi)
  · rw [hold b fun e => (h.own.out id hid).1 (e ▸ hb)]; exact h.frame b hb
  · rw [hw]; simpa using h.grow

end Go.Proofs.Ytfjdfnlkobeehaa
end

section
set_option linter.unusedVariables false
set_option linter.unusedSimpArgs false
namespace Go.Proofs.Ytfjdfnlkobeehaa

def elemT (P : Program) (t : TypeId) : Option TypeId := match P.underlying t with
  | some (.slice e) => some e
  | _ => none
def aggT (P : Program) (t : TypeId) : Bool := match P.underlying t with
  | some (.struct _) | some (.array _ _) => true
  | _ => false

def oneT (P : Program) (t : TypeId) : Bool := match P.underlying t with
  | some (.struct _) | some (.array _ _) | none => false
  | _ => true
def kindT (P : Program) (t : TypeId) : Option IntKind := match P.underlying t with
  | some (.int k) => some k
  | _ => none
def strT (P : Program) (t : TypeId) : Bool := match P.underlying t with
  | some .string => true
  | _ => false

def sizeT (P : Program) (t : TypeId) : Option Nat := (P.info? t).map (·.size)
def fieldT (P : Program) (s f : Nat) : Option (Nat × TypeId) := match P.underlying s with
  | some (.struct fs) => (fs[f]?).map fun x => (x.offset, x.type)
  | _ => none

theorem elemT_some {P : Program} {t e : TypeId} (h : elemT P t = some e) : P.underlying t = some (.slice e) := by
  unfold elemT at h; split at h <;> simp_all
theorem kindT_some {P : Program} {t : TypeId} {k : IntKind} (h : kindT P t = some k) : P.underlying t = some (.int k) := by
  unfold kindT at h; split at h <;> simp_all
theorem strT_true {P : Program} {t : TypeId} (h : strT P t = true) : P.underlying t = some .string := by
  unfold strT at h; split at h <;> simp_all
theorem sizeT_some {P : Program} {t : TypeId} {n : Nat} (h : sizeT P t = some n) (w : World) : (sizeOf t).run P w = .ok n w := by
  unfold sizeT at h
  cases hi : P.info? t with
  | none => simp [hi] at h
  | some i => simp [hi] at h; simp [sizeOf, typeInfo, hi, h]

def arithV (k : IntKind) (z : Int) : Option Value :=
  if k.signed then (if k.min ≤ z ∧ z ≤ k.max then some (.int k z) else none) else some (.int k (k.wrap z))

theorem wrap_of_range {k : IntKind} {z : Int} (hs : k.signed = true) (h : k.min ≤ z ∧ z ≤ k.max) : k.wrap z = z := by
  cases k <;> simp [IntKind.signed] at hs <;> simp [IntKind.min, IntKind.max, IntKind.signed, IntKind.bits] at h <;> simp [IntKind.wrap, IntKind.bits, IntKind.signed] <;> omega

theorem arithV_some {k : IntKind} {z : Int} {v : Value} (h : arithV k z = some v) : v = .int k (k.wrap z) := by
  unfold arithV at h
  split at h
  · rename_i hs
    split at h
    · rename_i hr; simp at h; rw [wrap_of_range hs hr]; exact h.symm
    · simp at h
  · simp at h; exact h.symm

def bitsV (op : BinOp) (k : IntKind) (x y : Int) : Option Value :=
  match op with
  | .and => some (.int k (k.wrap (BitVec.ofInt k.bits x &&& BitVec.ofInt k.bits y).toNat))
  | .or => some (.int k (k.wrap (BitVec.ofInt k.bits x ||| BitVec.ofInt k.bits y).toNat))
  | .xor => some (.int k (k.wrap (BitVec.ofInt k.bits x ^^^ BitVec.ofInt k.bits y).toNat))
  | _ => none

def binI (op : BinOp) (k : IntKind) (a b : Int) : Option Value :=
  match op with
  | .add => arithV k (a + b)
  | .sub => arithV k (a - b)
  | .mul => arithV k (a * b)
  | .quo => if b = 0 then none else arithV k (a.tdiv b)
  | .rem => if b = 0 then none else some (.int k (a.tmod b))
  | .eql => some (.bool (decide (a = b)))
  | .neq => some (.bool (decide (a ≠ b)))
  | .lss => some (.bool (decide (a < b)))
  | .leq => some (.bool (decide (a ≤ b)))
  | .gtr => some (.bool (decide (b < a)))
  | .geq => some (.bool (decide (b ≤ a)))
  | op => bitsV op k a b

def shiftV (op : BinOp) (k : IntKind) (a b : Int) : Option Value :=
  if b < 0 then none else
  match op with
  | .shl => arithV k (a * 2 ^ (min b.toNat k.bits))
  | .shr => some (.int k (a.fdiv (2 ^ (min b.toNat k.bits))))
  | _ => none

def strV (op : BinOp) (a b : ByteArray) : Option Value :=
  match op with
  | .add => if (a.size + b.size : Nat) ≤ 9223372036854775807 then some (.string (a ++ b)) else none
  | .eql => some (.bool (a.toList == b.toList))
  | .neq => some (.bool !(a.toList == b.toList))
  | _ => none

def binV (op : BinOp) : Value → Value → Option Value
  | .int k a, .int k' b => match op with
    | .shl => shiftV .shl k a b
    | .shr => shiftV .shr k a b
    | op => if k = k' then binI op k a b else none
  | .bool a, .bool b => match op with
    | .eql => some (.bool (a == b))
    | .neq => some (.bool (a != b))
    | _ => none
  | .string a, .string b => strV op a b
  | _, _ => none


def boolT (P : Program) (t : TypeId) : Bool := match P.underlying t with
  | some .bool => true
  | _ => false

def unV (op : UnOp) : Value → Option Value
  | .int k a => match op with
    | .neg => arithV k (0 - a)
    | .xor => bitsV .xor k (if k.signed then -1 else k.max) a
    | _ => none
  | .bool b => match op with
    | .not => some (.bool !b)
    | _ => none
  | _ => none

def convI (sk k : IntKind) (n : Int) : Option Value :=
  if k.signed then (if sk = .u64 then some (.int k (k.wrap n)) else arithV k n) else some (.int k (k.wrap n))

def idxP (sz : Nat) (x : PV) (n : Int) : Option PV :=
  match x with
  | .sl len cs => if 0 ≤ n ∧ n < len then some (.rp (cs.drop (n.toNat * sz))) else none
  | .ref id off len cap z => if 0 ≤ n ∧ n < len then some (.ptr id (off + n.toNat * sz)) else none
  | _ => none

def ldC (agg : Bool) (n : Nat) (cs : List PV) : Option PV :=
  if agg then (if n ≤ cs.length ∧ 0 < n then some (.agg (cs.take n)) else none) else cs.head?

def ldP (agg : Bool) (n : Nat) (H : Nat → Option (List PV)) (p : PV) : Option PV :=
  match p with
  | .rp cs => ldC agg n cs
  | .ptr id off => match H id with
    | some cs => ldC agg n (cs.drop off)
    | none => none
  | _ => none

def fldP (off : Nat) (p : PV) : Option PV :=
  match p with
  | .rp cs => some (.rp (cs.drop off))
  | .ptr id o => some (.ptr id (o + off))
  | _ => none

def bndP (st : PS) (d : Nat) : Option Operand → Option Nat
  | none => some d
  | some x => match st.ev x with
    | .val (.int _ n) => if 0 ≤ n then some n.toNat else none
    | _ => none

def sliceP (sz : Nat) (x : PV) (lo hi : Nat) : Option PV :=
  match x with
  | .sl n cs => if lo ≤ hi ∧ hi ≤ n then some (.sl (hi - lo) ((cs.drop (lo * sz)).take ((hi - lo) * sz))) else none
  | .ref id off n cap z => if lo ≤ hi ∧ hi ≤ cap then some (.ref id (if cap = lo then off else off + lo * sz) (hi - lo) (cap - lo) z) else none
  | .val (.string s) => if lo ≤ hi ∧ hi ≤ s.size then some (.val (.string (s.extract lo hi))) else none
  | .val (.slice none 0 0) => if lo = 0 ∧ hi = 0 then some (.val (.slice none 0 0)) else none
  | _ => none

def lenP (x : PV) : Option Nat :=
  match x with
  | .sl n _ => some n
  | .ref _ _ n _ _ => some n
  | .val (.slice _ n _) => some n
  | .val (.string s) => some s.size
  | _ => none

def capP (x : PV) : Option Nat :=
  match x with
  | .ref _ _ _ cap _ => some cap
  | .val (.slice _ _ cap) => some cap
  | _ => none


def bytesP : List PV → Option (List UInt8)
  | [] => some []
  | .val (.int .u8 n) :: cs => (bytesP cs).map (UInt8.ofNat n.toNat :: ·)
  | _ :: _ => none

def convP (P : Program) (H : Nat → Option (List PV)) (s d : TypeId) (x : PV) : Option PV :=
  match x with
  | .val (.int k' n) => match kindT P s, kindT P d with
    | some sk, some k => (convI sk k n).map .val
    | _, _ => none
  | .val (.string b) => if strT P d = true ∧ strT P s = true then some (.val (.string b)) else none
  | .sl n cs => if strT P d = true ∧ (elemT P s).bind (kindT P) = some .u8 then
      (if cs.length = n then (bytesP cs).map fun l => .val (.string ⟨l.toArray⟩) else none) else none
  | .ref id off n _ _ => if strT P d = true ∧ (elemT P s).bind (kindT P) = some .u8 then
      (match H id with
      | some cs => if off + n ≤ cs.length then (bytesP ((cs.drop off).take n)).map fun l => .val (.string ⟨l.toArray⟩) else none
      | none => none) else none
  | _ => none

def cellsP : PV → List PV
  | .agg cs => cs
  | .val (.agg vs) => vs.toList.map .val
  | p => [p]

def aggP : PV → Option (List PV)
  | .agg cs => some cs
  | .val (.agg vs) => some (vs.toList.map .val)
  | _ => none


def spl {α : Type} (cs : List α) (off : Nat) (new : List α) : List α := cs.take off ++ (new ++ cs.drop (off + new.length))

def zeroT (P : Program) (t : TypeId) : Option (List Value) := ((P.info? t).bind (·.zero)).map (·.cells.toList)

def isAny : PV → Bool
  | .any => true
  | _ => false

def buildF (P : Program) (st : PS) (t : TypeId) : List (Nat × Operand) → List PV → Option (List PV)
  | [], cs => some cs
  | (i, x) :: ps, cs => match fieldT P t i with
    | some (off, ft) => match sizeT P ft with
      | some n => if (cellsP (st.ev x)).length = n ∧ off + n ≤ cs.length ∧ isAny (st.ev x) = false then buildF P st t ps (spl cs off (cellsP (st.ev x))) else none
      | none => none
    | none => none


def sizedT (P : Program) (t : TypeId) : Bool := match P.underlying t with
  | some (.struct fs) => fs.toList.all fun f => (sizeT P f.type).isSome
  | _ => false

def oneP : PV → Bool
  | .val v => v.oneCell'
  | .sl .. | .ref .. | .ptr .. | .rp .. | .fn .. => true
  | .any | .agg _ | .tup _ => false

def maxP (x y : PV) : Option PV := match x, y with
  | .val (.int k a), .val (.int _ b) => some (.val (.int k (if b > a then b else a)))
  | _, _ => none

def qv (P : Program) (st : PS) : Op → Option PV
  | .move x => some (st.ev x)
  | .assign x => some (st.ev x)
  | .pick c a b => match st.ev c with
    | .val (.bool t) => some (if t then st.ev a else st.ev b)
    | _ => none
  | .binOp op t x y _ => match st.ev x, st.ev y with
    | .val (.bool a), .val (.bool b) => if boolT P t = true then (binV op (.bool a) (.bool b)).map .val else none
    | .val a, .val b => (binV op a b).map .val
    | _, _ => none
  | .unOp op _ x => match st.ev x with
    | .val a => (unV op a).map .val
    | _ => none
  | .convert s d x => convP P st.H s d (st.ev x)
  | .indexAddr t x i => match elemT P t with
    | some e => match sizeT P e, st.ev i with
      | some sz, .val (.int _ n) => idxP sz (st.ev x) n
      | _, _ => none
    | none => none
  | .index t x i => match st.ev x, st.ev i with
    | .val (.string s), .val (.int _ n) => if strT P t = true ∧ 0 ≤ n then (s[n.toNat]?).map fun b => .val (.int .u8 b.toNat) else none
    | _, _ => none
  | .load t p => match sizeT P t with
    | some n => if aggT P t || oneT P t then ldP (aggT P t) n st.H (st.ev p) else none
    | none => none
  | .fieldAddr s p f => match fieldT P s f with
    | some (off, t) => match sizeT P t with
      | some (n + 1) => fldP off (st.ev p)
      | _ => none
    | none => none
  | .build t parts => match zeroT P t with
    | some z => if sizedT P t then (buildF P st t parts.toList (z.map .val)).map .agg else none
    | none => none
  | .field s x f => match fieldT P s f, aggP (st.ev x) with
    | some (off, t), some cs => match sizeT P t with
      | some n => if aggT P t || oneT P t then ldC (aggT P t) n (cs.drop off) else none
      | none => none
    | _, _ => none
  | .extract x i => match st.ev x with
    | .tup cs => cs[i]?
    | _ => none
  | .nilCheck x => match st.ev x with
    | .ptr id off => some (.ptr id off)
    | .rp cs => some (.rp cs)
    | _ => none
  | .slice t x lo hi none =>
    if strT P t then (match st.ev x with
      | .val (.string s) => match bndP st s.size hi, bndP st 0 lo with
        | some h, some l => sliceP 1 (.val (.string s)) l h
        | _, _ => none
      | _ => none)
    else match elemT P t with
      | some e => match sizeT P e, lenP (st.ev x) with
        | some sz, some n => match bndP st n hi, bndP st 0 lo, st.ev x with
          | _, _, .val (.string _) => none
          | some h, some l, x => sliceP sz x l h
          | _, _, _ => none
        | _, _ => none
      | none => none
  | .makeFunc (.func f) first caps => if first.size = 0 then some (.fn f (caps.toList.map st.ev)) else none
  | .call c => match c.callee, c.args.toList, c.argTypes.toList with
    | .builtin .len, [x], [t] => if strT P t then (match st.ev x with
        | .val (.string s) => some (.val (.int .i64 s.size))
        | _ => none)
      else (match elemT P t, st.ev x with
        | some _, .val (.string _) => none
        | some _, x => (lenP x).map fun n => .val (.int .i64 n)
        | _, _ => none)
    | .builtin .cap, [x], [t] => (match elemT P t, st.ev x with
        | some _, x => (capP x).map fun n => .val (.int .i64 n)
        | _, _ => none)
    | .builtin .max, [x, y], [_, _] => maxP (st.ev x) (st.ev y)
    | _, _, _ => none
  | _ => none

end Go.Proofs.Ytfjdfnlkobeehaa
end

section
set_option linter.unusedVariables false
set_option linter.unusedSimpArgs false
namespace Go.Proofs.Ytfjdfnlkobeehaa

variable {P : Program}

theorem isAgg_run {t : TypeId} {b : Bool} (h : aggT P t = b) (h2 : aggT P t = true ∨ oneT P t = true) (w : World) : (isAgg t).run P w = .ok b w := by
  unfold isAgg aggT oneT at *
  cases hu : P.underlying t with
  | none => simp [hu] at h2
  | some d =>
    rw [Sem.run_bind, run_underlying hu w]
    cases d <;> simp [hu] at h ⊢ <;> (first | (subst h; simp) | skip)


theorem load_sound {w : World} {t : TypeId} {n : Nat} {E : En} (hE : E.w = w) {b o : Nat} {cs : List PV} {p : PV} (hs : sizeT P t = some n) (ha : (aggT P t || oneT P t) = true)
    (hrow : Row E b o cs) (hl : ldC (aggT P t) n cs = some p) : ∃ v, (loadVar t ⟨b, o, none⟩).run P w = .ok v w ∧ Rep E p v := by
  subst hE
  have ha' : aggT P t = true ∨ oneT P t = true := by simpa using ha
  cases hg : aggT P t with
  | true =>
    simp only [hg, ldC, if_true] at hl
    split at hl
    · rename_i hn
      simp at hl; subst hl
      obtain ⟨vs, hr, hv⟩ := Row.vals (Row.take n hrow)
      have hlen : vs.length = n := by rw [← RepL.length hr]; simp; omega
      refine ⟨.agg vs.toArray, ?_, vs, rfl, hr⟩
      have := run_loadCells_list (P := P) E.w ⟨b, o, none⟩ vs (fun j v hj => by
        rw [Addr.add_mid, hv j (List.getElem?_eq_some_iff.1 hj).1]; exact hj)
      rw [hlen] at this
      simp [loadVar, Sem.run_bind, isAgg_run hg ha', sizeT_some hs, this]
    · simp at hl
  | false =>
    simp only [hg, ldC, Bool.false_eq_true, if_false] at hl
    cases cs with
    | nil => simp at hl
    | cons c cs =>
      simp at hl; subst hl
      simp only [Row] at hrow
      obtain ⟨⟨v, hv, hr⟩, _⟩ := hrow
      exact ⟨v, by simp [loadVar, Sem.run_bind, isAgg_run hg ha', hv], hr⟩

theorem Rr.row {c : Cx} {st : PS} {a : Act} {w : World} {ρ : Nat → Nat} (h : Rr c st a w ρ) {id : Nat} {cs : List PV} (hc : st.H id = some cs) (off : Nat) :
    cs.drop off = [] ∨ Row (enOf c.A0 w ρ st.H st.it st.nx) (ρ id) off (cs.drop off) := by
  cases cs with
  | nil => simp
  | cons x xs =>
    obtain ⟨vs, e, hb, hr⟩ := h.own.blk id _ hc (by simp)
    refine .inr (Row.of_block (E := enOf c.A0 w ρ st.H st.it st.nx) hb _ off (vs.toList.drop off) (RepL.drop off hr) fun i hi => ?_)
    simp

theorem ldP_sound {c : Cx} {st : PS} {a : Act} {w : World} {ρ : Nat → Nat} (h : Rr c st a w ρ) {t : TypeId} {n : Nat} {x p : PV} {v : Value} (hs : sizeT P t = some n) (ha : (aggT P t || oneT P t) = true)
    (hx : Rep (enOf c.A0 w ρ st.H st.it st.nx) x v) (hl : ldP (aggT P t) n st.H x = some p) :
    ∃ u, (Instr.loadAt t v).run P w = .ok u w ∧ Rep (enOf c.A0 w ρ st.H st.it st.nx) p u := by
  have nonil : ∀ (cs : List PV), cs = [] → ldC (aggT P t) n cs = some p → False := by
    rintro _ rfl hc
    cases hg : aggT P t <;> simp [ldC, hg] at hc; omega
  cases x with
  | rp cs =>
    simp only [Rep] at hx
    obtain ⟨b, o, rfl, hx⟩ := hx
    simp only [ldP] at hl
    rcases hx with hx | ⟨_, hx⟩
    · exact (nonil cs hx hl).elim
    · obtain ⟨u, hu, hr⟩ := load_sound (P := P) (E := enOf c.A0 w ρ st.H st.it st.nx) rfl hs ha hx hl
      exact ⟨u, by simpa [Instr.loadAt, Instr.sureAddr] using hu, hr⟩
  | ptr id off =>
    simp only [Rep] at hx
    obtain ⟨_, rfl⟩ := hx
    simp only [ldP] at hl
    cases hc : st.H id with
    | none => simp [hc] at hl
    | some cs =>
      simp only [hc] at hl
      rcases h.row hc off with hx | hx
      · exact (nonil _ hx hl).elim
      · obtain ⟨u, hu, hr⟩ := load_sound (P := P) (E := enOf c.A0 w ρ st.H st.it st.nx) rfl hs ha hx hl
        exact ⟨u, by simpa [Instr.loadAt, Instr.sureAddr] using hu, hr⟩
  | _ => simp [ldP] at hl

theorem binI_sound {op : BinOp} {k : IntKind} {a b : Int} {v : Value} (h : binI op k a b = some v) (t : TypeId) (w : World) (hop : op ≠ .shl ∧ op ≠ .shr) :
    (binOp op t (.int k a) (.int k b)).run P w = .ok v w := by
  cases op <;> simp [binI] at h <;> (try simp [binOp, Op.intArith, Op.intCmp])
  all_goals first
    | (have := arithV_some h; subst this; rfl)
    | (subst h; rfl)
    | (simp at hop; done)
    | skip
  case quo =>
    obtain ⟨h0, h⟩ := h
    have := arithV_some h; subst this
    simp [Op.intDiv, h0]
  case rem =>
    obtain ⟨h0, h⟩ := h
    subst h
    simp [Op.intDiv, h0]
  all_goals first
    | (simp [bitsV] at h; done)
    | (simp [bitsV] at h; subst h; simp [Op.intBits])
    | skip

theorem arith_wrap {k : IntKind} {z : Int} {v : Value} (h : arithV k z = some v) (w : World) : (Pure.pure (.int k (k.wrap z)) : Sem Value).run P w = .ok v w := by
  rw [arithV_some h]; rfl

theorem shiftV_sound {op : BinOp} {k k' : IntKind} {a b : Int} {v : Value} (h : shiftV op k a b = some v) (w : World) : (Op.shift op k a k' b).run P w = .ok v w := by
  unfold shiftV at h
  split at h
  · simp at h
  · rename_i hb
    cases op <;> simp at h
    · have := arithV_some h; subst this; simp [Op.shift, hb]
    · subst h; simp [Op.shift, hb]

theorem binV_sound {op : BinOp} {x y v : Value} (h : binV op x y = some v) (t : TypeId) (w : World) (hb : ∀ a b, x = .bool a → y = .bool b → boolT P t = true) :
    (binOp op t x y).run P w = .ok v w := by
  cases x <;> cases y <;> simp only [binV] at h <;> (try (simp at h; done))
  case bool.bool a b =>
    have hu : P.underlying t = some .bool := by
      have := hb a b rfl rfl
      unfold boolT at this; split at this <;> simp_all
    cases op <;> simp at h <;> subst h
    · have e : binOp .eql t (.bool a) (.bool b) = (do pure (.bool (← Op.equal t (.bool a) (.bool b)))) := rfl
      rw [e, Sem.run_bind, run_equal_bool w t a b hu]; rfl
    · have e : binOp .neq t (.bool a) (.bool b) = (do pure (.bool (!(← Op.equal t (.bool a) (.bool b))))) := rfl
      rw [e, Sem.run_bind, run_equal_bool w t a b hu]; rfl
  case int.int k a k' b =>
    cases op <;> simp only [] at h
    case shl => exact shiftV_sound (k' := k') h w
    case shr => exact shiftV_sound (k' := k') h w
    all_goals
      split at h
      · rename_i hk; subst hk; exact binI_sound h t w (by simp)
      · simp at h
  case string.string a b =>
    cases op <;> simp only [strV] at h <;> (try (simp at h; done))
    case add =>
      split at h
      · rename_i hs
        simp at h; subst h
        show (Op.stringOp .add a b).run P w = _
        unfold Op.stringOp
        have hs2 : ¬ (((a.size + b.size : Nat) : Int) > IntKind.i64.max) := by
          have : IntKind.i64.max = 9223372036854775807 := by decide
          rw [this]; omega
        simp only [hs2, if_false]
        rfl
      · simp at h
    case eql => simp at h; subst h; rfl
    case neq => simp at h; subst h; rfl

theorem eqGuard_sound {op : BinOp} {x y : Value} {u : Value} (h : binV op x y = some u) (t : TypeId) (p q : Operand) (w : World) : (eqGuard op t p q x y).run P w = .ok () w := by
  unfold eqGuard
  cases x <;> cases y <;> simp only [binV] at h <;> (try (simp at h; done)) <;> split <;> simp

theorem unV_sound {op : UnOp} {x v : Value} (h : unV op x = some v) (w : World) : (Op.unary op x).run P w = .ok v w := by
  cases x <;> simp only [unV] at h <;> (try (simp at h; done))
  case bool b => cases op <;> simp at h; subst h; rfl
  case int k a =>
    cases op <;> simp only [] at h <;> (try (simp at h; done))
    case neg => simpa [Op.unary, Op.intArith] using arith_wrap (P := P) h w
    case xor => simp [bitsV] at h; subst h; simp [Op.unary, Op.intBits]

theorem ByteArray_push (s : ByteArray) (b : UInt8) : s.push b = ⟨(s.data.toList ++ [b]).toArray⟩ := by
  cases s; simp [ByteArray.push]
  apply Array.ext'; simp

theorem addr_add (b o i : Nat) : (⟨b, o, none⟩ : Addr).add i = ⟨b, o + i, none⟩ := Addr.add_mid b o i

theorem idxP_sound {E : En} {t e : TypeId} {sz : Nat} {x p : PV} {v : Value} {k : IntKind} {n : Int} {w : World} (ht : elemT P t = some e) (hs : sizeT P e = some sz)
    (hx : Rep E x v) (hp : idxP sz x n = some p) : ∃ r, (Instr.indexAt t v (.int k n)).run P w = .ok r w ∧ Rep E p r := by
  have hu := elemT_some ht
  cases x with
  | sl len cs =>
    simp only [idxP] at hp
    split at hp
    · rename_i hn
      simp at hp; subst hp
      simp only [Rep] at hx
      rcases hx with ⟨h0, _, _⟩ | ⟨b, o, cap, rfl, _, hx⟩
      · omega
      refine ⟨.pointer (some ⟨b, o + n.toNat * sz, none⟩), ?_, ?_⟩
      · simp [Instr.indexAt, asIntOf, run_underlying hu, hn, sizeT_some hs, addr_add]
      · simp only [Rep]
        refine ⟨b, o + n.toNat * sz, rfl, ?_⟩
        rcases hx with hx | ⟨hA, hr⟩
        · exact .inl (by simp [hx])
        · exact .inr ⟨hA, Row.drop _ hr⟩
    · simp at hp
  | ref id off len cap z =>
    simp only [idxP] at hp
    split at hp
    · rename_i hn
      simp at hp; subst hp
      simp only [Rep] at hx
      obtain ⟨hid, hle, rfl | ⟨h0, _, _⟩⟩ := hx
      · refine ⟨.pointer (some ⟨E.ρ id, off + n.toNat * sz, none⟩), ?_, hid, rfl⟩
        simp [Instr.indexAt, asIntOf, run_underlying hu, hn, sizeT_some hs, addr_add]
      · omega
    · simp at hp
  | _ => simp [idxP] at hp

theorem fldP_sound {E : En} {s f off n : Nat} {t : TypeId} {x p : PV} {v : Value} {w : World} (hf : fieldT P s f = some (off, t)) (hs : sizeT P t = some (n + 1))
    (hx : Rep E x v) (hp : fldP off x = some p) : ∃ r, (Instr.fieldAt s v f).run P w = .ok r w ∧ Rep E p r := by
  unfold fieldT at hf
  cases hu : P.underlying s with
  | none => simp [hu] at hf
  | some d =>
    cases d <;> simp [hu] at hf
    rename_i fs
    obtain ⟨y, hy, rfl, rfl⟩ := hf
    have key : ∀ b o, (Instr.fieldAt s (.pointer (some ⟨b, o, none⟩)) f).run P w = .ok (.pointer (some ⟨b, o + y.offset, none⟩)) w := by
      intro b o
      simp [Instr.fieldAt, run_underlying hu, hy, Instr.sureAddr, fieldPlace, sizeT_some hs, addr_add]
    cases x with
    | rp cs =>
      simp [fldP] at hp; subst hp
      simp only [Rep] at hx
      obtain ⟨b, o, rfl, hx⟩ := hx
      refine ⟨_, key b o, ?_⟩
      simp only [Rep]
      refine ⟨b, _, rfl, ?_⟩
      rcases hx with hx | ⟨hA, hr⟩
      · exact .inl (by simp [hx])
      · exact .inr ⟨hA, Row.drop _ hr⟩
    | ptr id o =>
      simp [fldP] at hp; subst hp
      simp only [Rep] at hx
      obtain ⟨hid, rfl⟩ := hx
      exact ⟨_, key _ _, hid, rfl⟩
    | _ => simp [fldP] at hp


theorem bnd_sound {c : Cx} {st : PS} {a : Act} {w : World} {ρ : Nat → Nat} (h : Rr c st a w ρ) {x : Operand} {d n : Nat} (hb : bndP st d (some x) = some n) :
    ∃ k, a.eval x = .int k (n : Int) := by
  simp only [bndP] at hb
  have hx := h.ev x
  cases hv : st.ev x with
  | val v =>
    rw [hv] at hb hx
    cases v <;> simp at hb
    rename_i k m
    simp only [Rep] at hx
    exact ⟨k, by rw [hx]; congr 1; omega⟩
  | _ => simp [hv] at hb

theorem sliceBounds_sound {c : Cx} {st : PS} {a : Act} {w : World} {ρ : Nat → Nat} (h : Rr c st a w ρ) {lo hi : Option Operand} {len cap l u : Nat} (b : Bool)
    (hl : bndP st 0 lo = some l) (hh : bndP st len hi = some u) (h1 : l ≤ u) (h2 : u ≤ cap) :
    (Instr.sliceBounds b len cap (lo.map a.eval) (hi.map a.eval) none).run P w = .ok (l, u, cap) w := by
  have e1 : ∀ (k : IntKind) (n y : Nat) (code : BoundsCode), n ≤ y → (Instr.sliceBound (.int k (n : Int)) y code).run P w = .ok n w := by
    intro k n y code hn
    have : (0 : Int) ≤ n ∧ (n : Int) ≤ y := by omega
    simp [Instr.sliceBound, asIntOf, this]
  cases hi with
  | none =>
    simp [bndP] at hh; subst hh
    cases lo with
    | none => simp [bndP] at hl; subst hl; simp [Instr.sliceBounds]
    | some x =>
      obtain ⟨k, hk⟩ := bnd_sound h hl
      simp [Instr.sliceBounds, hk, e1 k l len _ h1]
  | some y =>
    obtain ⟨k, hk⟩ := bnd_sound h hh
    cases lo with
    | none => simp [bndP] at hl; subst hl; simp [Instr.sliceBounds, hk, e1 k u cap _ h2]
    | some x =>
      obtain ⟨k', hk'⟩ := bnd_sound h hl
      simp [Instr.sliceBounds, hk, hk', e1 k u cap _ h2, e1 k' l u _ h1]

theorem bytes_nums {E : En} : ∀ {cs : List PV} {vs : List Value} {l : List UInt8}, RepL E cs vs → bytesP cs = some l →
    ∃ ns : List Int, vs = ns.map (Value.int .u8) ∧ l = ns.map fun n => UInt8.ofNat n.toNat
  | [], [], l, _, hl => by simp [bytesP] at hl; subst hl; exact ⟨[], rfl, rfl⟩
  | p :: cs, v :: vs, l, h, hl => by
    simp only [RepL] at h
    cases p with
    | val x =>
      cases x <;> (try (simp [bytesP] at hl; done))
      rename_i k n
      cases k <;> simp [bytesP] at hl
      obtain ⟨l', hl', rfl⟩ := hl
      have hv : v = .int .u8 n := by simpa [Rep] using h.1
      obtain ⟨ns, rfl, rfl⟩ := bytes_nums h.2 hl'
      exact ⟨n :: ns, by simp [hv], by simp⟩
    | _ => simp [bytesP] at hl
  | [], _ :: _, _, h, _ => by simp [RepL] at h
  | _ :: _, [], _, h, _ => by simp [RepL] at h

theorem foldl_push (ns : List Int) : ∀ s : ByteArray, ns.foldl (fun r n => r.push (UInt8.ofNat n.toNat)) s = ⟨(s.data.toList ++ ns.map fun n => UInt8.ofNat n.toNat).toArray⟩ := by
  induction ns with
  | nil => intro s; simp
  | cons n ns ih => intro s; rw [List.foldl_cons, ih, ByteArray_push]; simp

theorem convBytes_sound {E : En} {b o len cap : Nat} {s d e : TypeId} {cs : List PV} {l : List UInt8} (hs : elemT P s = some e) (he : kindT P e = some .u8) (hd : strT P d = true)
    (hr : Row E b o cs) (hlen : cs.length = len) (hl : bytesP cs = some l) :
    (convert s d (.slice (some ⟨b, o, none⟩) len cap)).run P E.w = .ok (.string ⟨l.toArray⟩) E.w := by
  obtain ⟨vs, hv, hc⟩ := Row.vals hr
  obtain ⟨ns, rfl, rfl⟩ := bytes_nums hv hl
  have hlen' : ns.length = len := by rw [← hlen, RepL.length hv]; simp
  have := run_loadCells_list (P := P) E.w ⟨b, o, none⟩ (ns.map (Value.int .u8)) (fun j v hj => by
    rw [addr_add, hc j (List.getElem?_eq_some_iff.1 hj).1]; exact hj)
  rw [List.length_map, hlen'] at this
  rw [run_convert_bytes_string E.w s d e _ len cap (elemT_some hs) (kindT_some he) (strT_true hd), run_bytesToString E.w _ len cap ns this, foldl_push]
  rfl

theorem convP_sound {c : Cx} {st : PS} {a : Act} {w : World} {ρ : Nat → Nat} (h : Rr c st a w ρ) {s d : TypeId} {x p : PV} {v : Value}
    (hx : Rep (enOf c.A0 w ρ st.H st.it st.nx) x v) (hp : convP P st.H s d x = some p) :
    ∃ r, (convert s d v).run P w = .ok r w ∧ Rep (enOf c.A0 w ρ st.H st.it st.nx) p r := by
  have nonil : bytesP [] = some [] := rfl
  cases x with
  | val u =>
    simp only [Rep] at hx; subst hx
    cases v <;> simp only [convP] at hp <;> (try (simp at hp; done))
    case int k' n =>
      cases hk : kindT P s with
      | none => simp [hk] at hp
      | some sk =>
        cases hk2 : kindT P d with
        | none => simp [hk, hk2] at hp
        | some k =>
          simp only [hk, hk2] at hp
          cases hc : convI sk k n with
          | none => simp [hc] at hp
          | some u =>
            simp [hc] at hp; subst hp
            refine ⟨u, ?_, by simp [Rep]⟩
            have hu : u = .int k (k.wrap n) := by
              unfold convI at hc
              split at hc
              · split at hc
                · simp at hc; exact hc.symm
                · exact arithV_some hc
              · simp at hc; exact hc.symm
            subst hu
            simp [convert, run_underlying (kindT_some hk), run_underlying (kindT_some hk2), Conv.intToInt]
    case string b =>
      split at hp
      · rename_i hd
        simp at hp; subst hp
        exact ⟨.string b, by simp [convert, run_underlying (strT_true hd.1), run_underlying (strT_true hd.2)], by simp [Rep]⟩
      · simp at hp
  | sl n cs =>
    simp only [convP] at hp
    split at hp
    · rename_i hd
      obtain ⟨hd1, hd2⟩ := hd
      obtain ⟨e, he1, he2⟩ := Option.bind_eq_some_iff.1 hd2
      split at hp
      · rename_i hlen
        cases hb : bytesP cs with
        | none => simp [hb] at hp
        | some l =>
          simp [hb] at hp; subst hp
          simp only [Rep] at hx
          rcases hx with ⟨rfl, rfl, a, rfl⟩ | ⟨b, o, cap, rfl, _, hx⟩
          · simp [bytesP] at hb; subst hb
            refine ⟨.string ⟨#[]⟩, ?_, by simp [Rep]⟩
            rw [run_convert_bytes_string w s d e _ 0 0 (elemT_some he1) (kindT_some he2) (strT_true hd1)]
            cases a with
            | none => simp [Conv.bytesToString]; rfl
            | some a => simp [Conv.bytesToString, loadCells]; rfl
          · refine ⟨.string ⟨l.toArray⟩, ?_, by simp [Rep]⟩
            have hr : Row (enOf c.A0 w ρ st.H st.it st.nx) b o cs := by
              rcases hx with hx | ⟨_, hx⟩
              · subst hx; simp [Row]
              · exact hx
            exact convBytes_sound (E := enOf c.A0 w ρ st.H st.it st.nx) he1 he2 hd1 hr hlen hb
      · simp at hp
    · simp at hp
  | ref id off n cap z =>
    simp only [convP] at hp
    split at hp
    · rename_i hd
      obtain ⟨hd1, hd2⟩ := hd
      obtain ⟨e, he1, he2⟩ := Option.bind_eq_some_iff.1 hd2
      cases hc : st.H id with
      | none => simp [hc] at hp
      | some cs =>
        simp only [hc] at hp
        split at hp
        · rename_i hlen
          cases hb : bytesP ((cs.drop off).take n) with
          | none => simp [hb] at hp
          | some l =>
            simp [hb] at hp; subst hp
            simp only [Rep] at hx
            obtain ⟨_, _, rfl | ⟨rfl, _, rfl⟩⟩ := hx
            · refine ⟨.string ⟨l.toArray⟩, ?_, by simp [Rep]⟩
              have hr : Row (enOf c.A0 w ρ st.H st.it st.nx) (ρ id) off ((cs.drop off).take n) := by
                rcases h.row hc off with hx | hx
                · rw [hx]; simp [Row]
                · exact Row.take n hx
              exact convBytes_sound (E := enOf c.A0 w ρ st.H st.it st.nx) he1 he2 hd1 hr (by simp; omega) hb
            · simp [bytesP] at hb; subst hb
              refine ⟨.string ⟨#[]⟩, ?_, by simp [Rep]⟩
              rw [run_convert_bytes_string w s d e _ 0 0 (elemT_some he1) (kindT_some he2) (strT_true hd1)]
              simp [Conv.bytesToString]; rfl
        · simp at hp
    · simp at hp
  | _ => simp [convP] at hp

theorem sliceP_sound {E : En} {t e : TypeId} {sz lo hi : Nat} {x p : PV} {v : Value} {w : World} {l u : Option Value} {len : Nat} (ht : elemT P t = some e) (hs : sizeT P e = some sz)
    (hx : Rep E x v) (hn : lenP x = some len) (hns : ∀ s, x ≠ .val (.string s))
    (hb : ∀ cap, hi ≤ cap → (Instr.sliceBounds true len cap l u none).run P w = .ok (lo, hi, cap) w)
    (hp : sliceP sz x lo hi = some p) : ∃ r, (Instr.slice t v l u none).run P w = .ok r w ∧ Rep E p r := by
  have hu := elemT_some ht
  cases x with
  | val y =>
    simp only [Rep] at hx; subst hx
    cases v with
    | string s => exact absurd rfl (hns s)
    | slice b n cap =>
      cases b with
      | some b => simp [sliceP] at hp
      | none =>
        cases n with
        | succ n => simp [sliceP] at hp
        | zero =>
          cases cap with
          | succ n => simp [sliceP] at hp
          | zero =>
            simp [sliceP] at hp
            obtain ⟨⟨rfl, rfl⟩, rfl⟩ := hp
            simp [lenP] at hn; subst hn
            have := hb 0 (Nat.le_refl _)
            exact ⟨.slice none 0 0, by simp [Instr.slice, run_underlying hu, this, sizeT_some hs], by simp [Rep]⟩
    | _ => simp [sliceP] at hp
  | sl n cs =>
    simp [lenP] at hn; subst hn
    simp only [sliceP] at hp
    split at hp
    · rename_i hc
      simp at hp; subst hp
      simp only [Rep] at hx
      rcases hx with ⟨rfl, rfl, a, rfl⟩ | ⟨b, o, cap, rfl, hcap, hx⟩
      · have h1 : hi = 0 := by omega
        have h2 : lo = 0 := by omega
        subst h1; subst h2
        have := hb 0 (Nat.le_refl _)
        exact ⟨.slice a 0 0, by simp [Instr.slice, run_underlying hu, this, sizeT_some hs], by simp [Rep]⟩
      · have := hb cap (by omega)
        refine ⟨.slice (if cap = lo then some ⟨b, o, none⟩ else some ⟨b, o + lo * sz, none⟩) (hi - lo) (cap - lo), ?_, ?_⟩
        · simp [Instr.slice, run_underlying hu, this, sizeT_some hs, addr_add]
        · simp only [Rep]
          by_cases he : cap = lo
          · subst he
            refine .inr ⟨b, o, cap - cap, by simp, by omega, .inl ?_⟩
            have : hi = cap := by omega
            subst this; simp
          · refine .inr ⟨b, o + lo * sz, cap - lo, by simp [he], by omega, ?_⟩
            rcases hx with hx | ⟨hA, hr⟩
            · exact .inl (by simp [hx])
            · exact .inr ⟨hA, Row.take _ (Row.drop _ hr)⟩
    · simp at hp
  | ref id off n cap z =>
    simp [lenP] at hn; subst hn
    simp only [sliceP] at hp
    split at hp
    · rename_i hc
      simp at hp; subst hp
      simp only [Rep] at hx
      obtain ⟨hid, hle, rfl | ⟨rfl, rfl, rfl⟩⟩ := hx
      · have := hb cap hc.2
        refine ⟨.slice (if cap = lo then some ⟨E.ρ id, off, none⟩ else some ⟨E.ρ id, off + lo * sz, none⟩) (hi - lo) (cap - lo), ?_, ?_⟩
        · simp [Instr.slice, run_underlying hu, this, sizeT_some hs, addr_add]
        · simp only [Rep]
          refine ⟨hid, by omega, .inl ?_⟩
          split <;> simp_all
      · have h1 : hi = 0 := by omega
        have h2 : lo = 0 := by omega
        subst h1; subst h2
        have := hb 0 (Nat.le_refl _)
        exact ⟨.slice none 0 0, by simp [Instr.slice, run_underlying hu, this, sizeT_some hs], by simp only [Rep]; exact ⟨hid, by omega, .inr (by simp)⟩⟩
    · simp at hp
  | _ => simp [sliceP] at hp

end Go.Proofs.Ytfjdfnlkobeehaa
end

section
set_option linter.unusedVariables false
set_option linter.unusedSimpArgs false
namespace Go.Proofs.Ytfjdfnlkobeehaa

variable {P : Program}

theorem cells_rep {E : En} {p : PV} {v : Value} (h : Rep E p v) (hp : isAny p = false) : RepL E (cellsP p) v.cells.toList := by
  cases p with
  | any => simp [isAny] at hp
  | val x =>
    simp only [Rep] at h; subst h
    cases v <;> simp [cellsP, Value.cells, RepL, Rep]
    exact RepL.vals _
  | sl n cs =>
    simp only [cellsP]
    have h' := h
    simp only [Rep] at h'
    rcases h' with ⟨_, _, a, rfl⟩ | ⟨b, o, cap, rfl, _⟩ <;> simp only [Value.cells, RepL, and_true] <;> exact h
  | ref id off n cap z =>
    simp only [cellsP]
    have h' := h
    simp only [Rep] at h'
    obtain ⟨_, _, rfl | ⟨_, _, rfl⟩⟩ := h' <;> simp only [Value.cells, RepL, and_true] <;> exact h
  | ptr id off =>
    simp only [cellsP]
    have h' := h
    simp only [Rep] at h'
    obtain ⟨_, rfl⟩ := h'
    simp only [Value.cells, RepL, and_true]; exact h
  | rp cs =>
    simp only [cellsP]
    have h' := h
    simp only [Rep] at h'
    obtain ⟨b, o, rfl, _⟩ := h'
    simp only [Value.cells, RepL, and_true]; exact h
  | agg cs =>
    simp only [Rep] at h
    obtain ⟨vs, rfl, h⟩ := h
    simpa [cellsP, Value.cells] using h
  | tup cs =>
    simp only [cellsP]
    have h' := h
    simp only [Rep] at h'
    obtain ⟨vs, rfl, _⟩ := h'
    simp only [Value.cells, RepL, and_true]; exact h
  | fn f cs =>
    simp only [cellsP]
    have h' := h
    simp only [Rep] at h'
    obtain ⟨vs, rfl, _⟩ := h'
    simp only [Value.cells, RepL, and_true]; exact h

theorem aggP_rep {E : En} {p : PV} {v : Value} {cs : List PV} (h : Rep E p v) (hp : aggP p = some cs) : ∃ vs : List Value, v = .agg vs.toArray ∧ RepL E cs vs := by
  cases p <;> simp [aggP] at hp
  case val x =>
    simp only [Rep] at h; subst h
    cases v <;> simp at hp
    subst hp
    exact ⟨_, by simp, RepL.vals _⟩
  case agg ds =>
    subst hp
    simpa only [Rep] using h

theorem RepL.spl {E : En} {cs new : List PV} {vs us : List Value} (off : Nat) (h : RepL E cs vs) (h2 : RepL E new us) : RepL E (spl cs off new) (spl vs off us) := by
  unfold Ytfjdfnlkobeehaa.spl
  rw [RepL.length h2]
  exact RepL.append (RepL.take _ h) (RepL.append h2 (RepL.drop _ h))

theorem spl_length {α : Type} {cs new : List α} {off : Nat} (h : off + new.length ≤ cs.length) : (spl cs off new).length = cs.length := by
  simp [spl]; omega

theorem spl_get {α : Type} {cs new : List α} {off : Nat} (h : off + new.length ≤ cs.length) (i : Nat) :
    (spl cs off new)[i]? = if i < off then cs[i]? else if i < off + new.length then new[i - off]? else cs[i]? := by
  unfold spl
  rw [List.getElem?_append, List.length_take, Nat.min_eq_left (by omega)]
  split
  · rw [List.getElem?_take]; simp [*]
  · rw [List.getElem?_append]
    split
    · rw [if_pos (by omega)]
    · rw [if_neg (by omega), List.getElem?_drop]
      congr 1; omega

theorem foldl_set_get (new : List Value) : ∀ (off j : Nat) (cs : Array Value), off + j + new.length ≤ cs.size → ∀ i,
    ((new.zipIdx j).foldl (fun cs (c, j) => cs.setIfInBounds (off + j) c) cs)[i]? = if i < off + j then cs[i]? else if i < off + j + new.length then new[i - (off + j)]? else cs[i]? := by
  induction new with
  | nil => intro off j cs h i; simp only [List.zipIdx_nil, List.foldl_nil, List.length_nil, Nat.add_zero]; split <;> (first | rfl | (rw [if_neg (by omega)]))
  | cons v new ih =>
    intro off j cs h i
    simp only [List.length_cons] at h ⊢
    rw [List.zipIdx_cons, List.foldl_cons]
    rw [ih off (j + 1) (cs.setIfInBounds (off + j) v) (by simp; omega) i, Array.getElem?_setIfInBounds]
    by_cases h1 : i < off + j
    · have e1 : i < off + (j + 1) := by omega
      have e2 : ¬ off + j = i := by omega
      simp [h1, e1, e2]
    · by_cases h2 : i = off + j
      · subst h2
        have e1 : off + j < off + (j + 1) := by omega
        have e3 : off + j < off + j + (new.length + 1) := by omega
        have e4 : off + j < cs.size := by omega
        simp [e1, e3, e4]
      · have e1 : ¬ i < off + (j + 1) := by omega
        have e2 : ¬ off + j = i := by omega
        simp only [h1, e1, e2, if_false]
        by_cases h3 : i < off + (j + 1) + new.length
        · rw [if_pos h3, if_pos (by omega)]
          rw [show i - (off + j) = i - (off + (j + 1)) + 1 from by omega, List.getElem?_cons_succ]
        · rw [if_neg h3, if_neg (by omega)]

theorem foldl_set (new : List Value) (off : Nat) (cs : Array Value) (h : off + new.length ≤ cs.size) :
    (new.zipIdx).foldl (fun cs (c, j) => cs.setIfInBounds (off + j) c) cs = (spl cs.toList off new).toArray := by
  apply Array.ext_getElem?
  intro i
  have := foldl_set_get new off 0 cs (by omega) i
  rw [this]
  simp only [Nat.add_zero, List.getElem?_toArray]
  rw [spl_get (by simpa using h)]
  simp

theorem build_sound {c : Cx} {st : PS} {a : Act} {w : World} {ρ : Nat → Nat} (h : Rr c st a w ρ) {t : TypeId} {fs : Array Field} (hu : P.underlying t = some (.struct fs))
    (hz : ∀ f ∈ fs.toList, (sizeT P f.type).isSome = true) :
    ∀ (ps : List (Nat × Operand)) (cs : List PV) (vs : List Value) (out : List PV), RepL (enOf c.A0 w ρ st.H st.it st.nx) cs vs → buildF P st t ps cs = some out →
    ∃ us : List Value, Instr.fill (fun i => (fs.map fun f => (f.offset, (sizeT P f.type).getD 0))[i]?) vs.toArray (ps.map fun p => (p.1, a.eval p.2)) = some us.toArray ∧ RepL (enOf c.A0 w ρ st.H st.it st.nx) out us
  | [], cs, vs, out, hr, hb => by
    simp [buildF] at hb; subst hb
    exact ⟨vs, by simp [Instr.fill], hr⟩
  | (i, x) :: ps, cs, vs, out, hr, hb => by
    simp only [buildF] at hb
    cases hf : fieldT P t i with
    | none => simp [hf] at hb
    | some q =>
      obtain ⟨off, ft⟩ := q
      simp only [hf] at hb
      cases hs : sizeT P ft with
      | none => simp [hs] at hb
      | some n =>
        simp only [hs] at hb
        split at hb
        · rename_i hc
          obtain ⟨h1, h2, h3⟩ := hc
          have hcr := cells_rep (h.ev x) h3
          obtain ⟨us, hfill, hus⟩ := build_sound h hu hz ps _ _ out (RepL.spl off hr hcr) hb
          refine ⟨us, ?_, hus⟩
          have hy : fs[i]? = some ⟨(fs[i]?.map (·.name)).getD "", ft, off, (fs[i]?.map (·.embedded)).getD false, (fs[i]?.map (·.tag)).getD "", (fs[i]?.map (·.pkgPath)).getD "", (fs[i]?.map (·.byteOffset)).getD 0⟩ := by
            unfold fieldT at hf
            rw [hu] at hf
            simp at hf
            obtain ⟨y, hy, rfl, rfl⟩ := hf
            rw [hy]; rfl
          have hlen := RepL.length hcr
          have hlen2 := RepL.length hr
          simp only [List.map_cons, Instr.fill]
          have e1 : (fs.map fun f => (f.offset, (sizeT P f.type).getD 0))[i]? = some (off, n) := by
            rw [Array.getElem?_map, hy]; simp [hs]
          rw [e1]
          have e2 : ((a.eval x).cells.size ≠ n) = False := by simp; rw [← h1, hlen]; simp
          have e3 : (off + (a.eval x).cells.size > vs.toArray.size) = False := by
            simp; rw [← hlen2]; have : (a.eval x).cells.size = n := by rw [← h1, hlen]; simp
            omega
          simp only [e2, e3]
          have hsz : (a.eval x).cells.size = n := by rw [← h1, hlen]; simp
          have := foldl_set (a.eval x).cells.toList off vs.toArray (by simp [hsz]; omega)
          have e4 : ((a.eval x).cells.zipIdx.foldl (fun cs (c, j) => cs.setIfInBounds (off + j) c) vs.toArray) = (spl vs off (a.eval x).cells.toList).toArray := by
            rw [← Array.foldl_toList, Array.toList_zipIdx]
            exact this
          rw [if_neg (by simp), e4]
          exact hfill
        · simp at hb

theorem zeroT_run {t : TypeId} {z : List Value} (h : zeroT P t = some z) (w : World) : ∃ v, (zeroValue t).run P w = .ok v w ∧ v.cells.toList = z := by
  unfold zeroT at h
  cases hi : P.info? t with
  | none => simp [hi] at h
  | some i =>
    cases hz : i.zero with
    | none => simp [hi, hz] at h
    | some v =>
      simp [hi, hz] at h
      exact ⟨v, by simp [zeroValue, typeInfo, hi, hz], h⟩

theorem mapM_places {fs : Array Field} (hz : ∀ f ∈ fs.toList, (sizeT P f.type).isSome = true) (w : World) :
    (fs.mapM fun f => (do pure (f.offset, ← sizeOf f.type) : Sem (Nat × Nat))).run P w = .ok (fs.map fun f => (f.offset, (sizeT P f.type).getD 0)) w := by
  rw [Array.mapM_eq_mapM_toList]
  have key : ∀ l : List Field, (∀ f ∈ l, (sizeT P f.type).isSome = true) →
      (l.mapM fun f => (do pure (f.offset, ← sizeOf f.type) : Sem (Nat × Nat))).run P w = .ok (l.map fun f => (f.offset, (sizeT P f.type).getD 0)) w := by
    intro l
    induction l with
    | nil => intro _; simp
    | cons f l ih =>
      intro h
      obtain ⟨n, hn⟩ := Option.isSome_iff_exists.1 (h f (by simp))
      rw [List.mapM_cons]
      simp only [Sem.run_bind, sizeT_some hn, Result.andThen_ok, Sem.run_pure, ih (fun g hg => h g (by simp [hg])), List.map_cons, hn, Option.getD_some]
  rw [Sem.run_map, key fs.toList hz]
  simp only [Result.andThen_ok]
  congr 1
  apply Array.ext'
  simp

theorem qv_sound {c : Cx} {st : PS} {a : Act} {w : World} {ρ : Nat → Nat} (h : Rr c st a w ρ) (o : Oper) {p : PV} (hq : qv P st o.op = some p) :
    ∃ v, (execOp a.eval o).run P w = .ok (.value v) w ∧ Rep (enOf c.A0 w ρ st.H st.it st.nx) p v := by
  have lift : ∀ (s : Sem Value) v, s.run P w = .ok v w → (do pure (.value (← s)) : Sem Next).run P w = .ok (.value v) w := by
    intro s v hs; simp [hs]
  obtain ⟨dst, op, ty, pos, after, guard⟩ := o
  cases op with
  | move x => simp [qv] at hq; subst hq; exact ⟨a.eval x, rfl, h.ev x⟩
  | assign x => simp [qv] at hq; subst hq; exact ⟨a.eval x, rfl, h.ev x⟩
  | pick b x y =>
    simp only [qv] at hq
    split at hq
    · rename_i t hb
      simp at hq
      have := h.ev b
      rw [hb] at this
      simp only [Rep] at this
      refine ⟨if t then a.eval x else a.eval y, ?_, ?_⟩
      · simp [execOp, this, asBool]
      · subst hq; cases t <;> simp <;> exact h.ev _
    · simp at hq
  | binOp op t x y yt =>
    simp only [qv] at hq
    have hx := h.ev x
    have hy := h.ev y
    have key : ∀ u v r, st.ev x = .val u → st.ev y = .val v → binV op u v = some r → (∀ a b, u = .bool a → v = .bool b → boolT P t = true) → p = .val r →
        ∃ v, (execOp a.eval ⟨dst, .binOp op t x y yt, ty, pos, after, guard⟩).run P w = .ok (.value v) w ∧ Rep (enOf c.A0 w ρ st.H st.it st.nx) p v := by
      intro u v r e1 e2 hr hb hp
      rw [e1] at hx; rw [e2] at hy
      simp only [Rep] at hx hy
      subst hp
      refine ⟨r, ?_, by simp [Rep]⟩
      simp only [execOp]
      apply lift
      rw [hx, hy]
      simp [eqGuard_sound hr, binV_sound hr t w hb]
    split at hq
    · rename_i b1 b2 e1 e2
      split at hq
      · rename_i hb
        cases hr : binV op (.bool b1) (.bool b2) with
        | none => simp [hr] at hq
        | some r => simp [hr] at hq; exact key _ _ r e1 e2 hr (fun _ _ _ _ => hb) hq.symm
      · simp at hq
    · rename_i u v hne e1 e2
      cases hr : binV op u v with
      | none => simp [hr] at hq
      | some r =>
        simp [hr] at hq
        refine key _ _ r e1 e2 hr (fun b1 b2 h1 h2 => ?_) hq.symm
        subst h1; subst h2
        exact (hne b1 b2 rfl rfl).elim
    · simp at hq
  | unOp op t x =>
    simp only [qv] at hq
    have hx := h.ev x
    split at hq
    · rename_i u e1
      rw [e1] at hx
      simp only [Rep] at hx
      cases hr : unV op u with
      | none => simp [hr] at hq
      | some r =>
        simp [hr] at hq; subst hq
        refine ⟨r, ?_, by simp [Rep]⟩
        simp only [execOp]
        apply lift
        rw [hx]; exact unV_sound hr w
    · simp at hq
  | convert s d x =>
    simp only [qv] at hq
    obtain ⟨r, hr, hrep⟩ := convP_sound h (h.ev x) hq
    exact ⟨r, lift _ _ hr, hrep⟩
  | indexAddr t x i =>
    simp only [qv] at hq
    cases he : elemT P t with
    | none => simp [he] at hq
    | some e =>
      simp only [he] at hq
      split at hq
      · rename_i sz k n hs hi
        have := h.ev i
        rw [hi] at this
        simp only [Rep] at this
        obtain ⟨r, hr, hrep⟩ := idxP_sound (k := k) (w := w) he hs (h.ev x) hq
        exact ⟨r, lift _ _ (by rw [this]; exact hr), hrep⟩
      · simp at hq
  | index t x i =>
    simp only [qv] at hq
    split at hq
    · rename_i s k n hx hi
      split at hq
      · rename_i hc
        cases hb : s[n.toNat]? with
        | none => simp [hb] at hq
        | some b =>
          simp [hb] at hq; subst hq
          have h1 := h.ev x
          have h2 := h.ev i
          rw [hx] at h1; rw [hi] at h2
          simp only [Rep] at h1 h2
          refine ⟨.int .u8 b.toNat, lift _ _ ?_, by simp [Rep]⟩
          rw [h1, h2]
          simp [Instr.index, asIntOf, run_underlying (strT_true hc.1), hc.2, hb]
      · simp at hq
    · simp at hq
  | load t x =>
    simp only [qv] at hq
    cases hs : sizeT P t with
    | none => simp [hs] at hq
    | some n =>
      simp only [hs] at hq
      split at hq
      · rename_i ha
        obtain ⟨r, hr, hrep⟩ := ldP_sound h hs ha (h.ev x) hq
        exact ⟨r, lift _ _ hr, hrep⟩
      · simp at hq
  | fieldAddr s x f =>
    simp only [qv] at hq
    cases hf : fieldT P s f with
    | none => simp [hf] at hq
    | some q =>
      obtain ⟨off, t⟩ := q
      simp only [hf] at hq
      split at hq
      · rename_i n hs
        obtain ⟨r, hr, hrep⟩ := fldP_sound (w := w) hf hs (h.ev x) hq
        exact ⟨r, lift _ _ hr, hrep⟩
      · simp at hq
  | build t parts =>
    simp only [qv] at hq
    cases hz : zeroT P t with
    | none => simp [hz] at hq
    | some z =>
      simp only [hz] at hq
      split at hq
      · rename_i hsz
        unfold sizedT at hsz
        cases hu : P.underlying t with
        | none => simp [hu] at hsz
        | some d =>
          cases d <;> simp only [hu] at hsz <;> (try (simp at hsz; done))
          rename_i fs
          have hsz' : ∀ f ∈ fs.toList, (sizeT P f.type).isSome = true := List.all_eq_true.1 hsz
          cases hb : buildF P st t parts.toList (z.map .val) with
          | none => simp [hb] at hq
          | some out =>
            simp [hb] at hq; subst hq
            obtain ⟨us, hfill, hus⟩ := build_sound h hu hsz' parts.toList _ z out (RepL.vals z) hb
            obtain ⟨v, hv, rfl⟩ := zeroT_run hz w
            refine ⟨.agg us.toArray, lift _ _ ?_, us, rfl, hus⟩
            have hp : (parts.map fun (i, x) => (i, a.eval x)).toList = parts.toList.map fun p => (p.1, a.eval p.2) := by simp
            simp only [Instr.build, Sem.run_bind, hv, Result.andThen_ok, run_underlying hu, mapM_places hsz', hp]
            rw [show v.cells.toList.toArray = v.cells from by simp] at hfill
            rw [hfill]; rfl
      · simp at hq
  | field s x f =>
    simp only [qv] at hq
    split at hq
    · rename_i off t cs hf hx
      cases hs : sizeT P t with
      | none => simp [hs] at hq
      | some n =>
        simp only [hs] at hq
        split at hq
        · rename_i ha
          obtain ⟨vs, hv, hr⟩ := aggP_rep (h.ev x) hx
          have ha' : aggT P t = true ∨ oneT P t = true := by simpa using ha
          unfold fieldT at hf
          cases hu : P.underlying s with
          | none => simp [hu] at hf
          | some d =>
            cases d <;> simp [hu] at hf
            rename_i fs
            obtain ⟨y, hy, rfl, rfl⟩ := hf
            have hd := RepL.drop y.offset hr
            have hlen := RepL.length hr
            cases hg : aggT P y.type with
            | true =>
              simp only [hg, ldC, if_true] at hq
              split at hq
              · rename_i hn
                simp at hq; subst hq
                refine ⟨.agg ((vs.drop y.offset).take n).toArray, lift _ _ ?_, _, rfl, RepL.take n hd⟩
                rw [hv]
                simp [Instr.field, run_underlying hu, hy, asAgg, part, isAgg_run hg ha', sizeT_some hs]
              · simp at hq
            | false =>
              simp only [hg, ldC, Bool.false_eq_true, if_false] at hq
              rw [List.head?_drop] at hq
              obtain ⟨u, hu2, hru⟩ := RepL.get hr y.offset p hq
              refine ⟨u, lift _ _ ?_, hru⟩
              rw [hv]
              simp [Instr.field, run_underlying hu, hy, asAgg, part, isAgg_run hg ha', hu2]
        · simp at hq
    · simp at hq
  | extract x i =>
    simp only [qv] at hq
    split at hq
    · rename_i cs hx
      have := h.ev x
      rw [hx] at this
      simp only [Rep] at this
      obtain ⟨vs, hv, hr⟩ := this
      obtain ⟨u, hu, hru⟩ := RepL.get hr i p hq
      exact ⟨u, lift _ _ (by rw [hv]; simp [Instr.extract, hu]), hru⟩
    · simp at hq
  | nilCheck x =>
    simp only [qv] at hq
    have hx := h.ev x
    split at hq
    · rename_i id off e
      simp at hq; subst hq
      rw [e] at hx
      have hx' := hx
      simp only [Rep] at hx'
      exact ⟨a.eval x, by simp [execOp, hx'.2], hx⟩
    · rename_i cs e
      simp at hq; subst hq
      rw [e] at hx
      have hx' := hx
      simp only [Rep] at hx'
      obtain ⟨b, o, hv, _⟩ := hx'
      exact ⟨a.eval x, by simp [execOp, hv], hx⟩
    · simp at hq
  | slice t x lo hi mx =>
    cases mx with
    | some _ => simp [qv] at hq
    | none =>
      simp only [qv] at hq
      have hx := h.ev x
      split at hq
      · rename_i hstr
        split at hq
        · rename_i s e
          rw [e] at hx
          simp only [Rep] at hx
          split at hq
          · rename_i u l hh hl
            simp only [sliceP] at hq
            split at hq
            · rename_i hc
              simp at hq; subst hq
              refine ⟨.string (s.extract l u), lift _ _ ?_, by simp [Rep]⟩
              rw [hx]
              have := sliceBounds_sound (P := P) h false hl hh hc.1 hc.2
              simp [Instr.sliceAt, run_underlying (strT_true hstr), Instr.slice, this]
            · simp at hq
          · simp at hq
        · simp at hq
      · cases he : elemT P t with
        | none => simp [he] at hq
        | some e =>
          simp only [he] at hq
          split at hq
          · rename_i sz n hs hn
            split at hq
            · simp at hq
            · rename_i u l hh hl hne
              have hub : l ≤ u := by
                cases hxx : st.ev x with
                | val y =>
                  rw [hxx] at hq
                  cases y with
                  | string s => exact (hne s hxx).elim
                  | slice b n cap =>
                    cases b with
                    | some b => simp [sliceP] at hq
                    | none => cases n <;> cases cap <;> simp [sliceP] at hq <;> omega
                  | _ => simp [sliceP] at hq
                | sl => rw [hxx] at hq; simp [sliceP] at hq; omega
                | ref => rw [hxx] at hq; simp [sliceP] at hq; omega
                | _ => rw [hxx] at hq; simp [sliceP] at hq
              obtain ⟨r, hr, hrep⟩ := sliceP_sound (w := w) (l := lo.map a.eval) (u := hi.map a.eval) he hs hx hn (fun s es => hne s es)
                (fun cap hcap => sliceBounds_sound h true hl hh hub hcap) hq
              refine ⟨r, lift _ _ ?_, hrep⟩
              simp only [Instr.sliceAt, Sem.run_bind, run_underlying (elemT_some he), Result.andThen_ok, Option.map_none]
              exact hr
            · simp at hq
          · simp at hq
  | makeFunc fn first caps =>
    cases fn with
    | func f =>
      simp only [qv] at hq
      split at hq
      · rename_i hf
        simp at hq; subst hq
        refine ⟨.func (.func f) #[] (caps.map a.eval), ?_, ?_⟩
        · have : first = #[] := by cases first; simp at hf; simp [hf]
          subst this
          simp only [execOp, Instr.makeFunc, Array.map_empty]
          rfl
        · simp only [Rep]
          refine ⟨caps.toList.map a.eval, by congr 1; apply Array.ext'; simp, ?_⟩
          have : ∀ l : List Operand, RepL (enOf c.A0 w ρ st.H st.it st.nx) (l.map st.ev) (l.map a.eval) := by
            intro l
            induction l with
            | nil => simp [RepL]
            | cons x l ih => simp only [List.map_cons, RepL]; exact ⟨h.ev x, ih⟩
          exact this _
      · simp at hq
    | _ => simp [qv] at hq
  | call cl =>
    obtain ⟨callee, args, argTypes⟩ := cl
    simp only [qv] at hq
    split at hq
    · rename_i x t hargs hty
      obtain rfl : args = #[x] := by apply Array.ext'; simpa using hargs
      obtain rfl : argTypes = #[t] := by apply Array.ext'; simpa using hty
      have hx := h.ev x
      split at hq
      · rename_i hstr
        split at hq
        · rename_i s e
          simp at hq; subst hq
          rw [e] at hx
          simp only [Rep] at hx
          refine ⟨.int .i64 s.size, ?_, by simp [Rep]⟩
          simp [execOp, resolve, invoke, builtin, Builtin.len_, run_underlying (strT_true hstr), hx, goInt]
        · simp at hq
      · split at hq
        · simp at hq
        · rename_i he hne
          have hu := elemT_some he
          have key : ∀ b n cap, a.eval x = .slice b n cap → p = .val (.int .i64 n) →
              ∃ v, (execOp a.eval ⟨dst, .call ⟨.builtin .len, #[x], #[t]⟩, ty, pos, after, guard⟩).run P w = .ok (.value v) w ∧ Rep (enOf c.A0 w ρ st.H st.it st.nx) p v := by
            intro b n cap hv hp
            subst hp
            exact ⟨.int .i64 n, by simp [execOp, resolve, invoke, builtin, Builtin.len_, run_underlying hu, hv, goInt], by simp [Rep]⟩
          cases hxx : st.ev x with
          | val u =>
            rw [hxx] at hq hx
            simp only [Rep] at hx
            cases u <;> simp [lenP] at hq
            · exact (hne _ hxx).elim
            · exact key _ _ _ hx hq.symm
          | sl n cs =>
            rw [hxx] at hq hx
            simp [lenP] at hq
            simp only [Rep] at hx
            rcases hx with ⟨rfl, _, ad, hv⟩ | ⟨b, o, cap, hv, _⟩ <;> exact key _ _ _ hv hq.symm
          | ref id off n cap z =>
            rw [hxx] at hq hx
            simp [lenP] at hq
            simp only [Rep] at hx
            obtain ⟨_, _, hv | ⟨rfl, _, hv⟩⟩ := hx <;> exact key _ _ _ hv hq.symm
          | _ => rw [hxx] at hq; simp [lenP] at hq
        · simp at hq
    · rename_i x t hargs hty
      obtain rfl : args = #[x] := by apply Array.ext'; simpa using hargs
      obtain rfl : argTypes = #[t] := by apply Array.ext'; simpa using hty
      have hx := h.ev x
      split at hq
      · rename_i he
        have hu := elemT_some he
        have key : ∀ b n cap, a.eval x = .slice b n cap → p = .val (.int .i64 cap) →
            ∃ v, (execOp a.eval ⟨dst, .call ⟨.builtin .cap, #[x], #[t]⟩, ty, pos, after, guard⟩).run P w = .ok (.value v) w ∧ Rep (enOf c.A0 w ρ st.H st.it st.nx) p v := by
          intro b n cap hv hp
          subst hp
          exact ⟨.int .i64 cap, by simp [execOp, resolve, invoke, builtin, Builtin.cap_, run_underlying hu, hv, goInt], by simp [Rep]⟩
        cases hxx : st.ev x with
        | val u =>
          rw [hxx] at hq hx
          simp only [Rep] at hx
          cases u <;> simp [capP] at hq
          exact key _ _ _ hx hq.symm
        | ref id off n cap z =>
          rw [hxx] at hq hx
          simp [capP] at hq
          simp only [Rep] at hx
          obtain ⟨_, _, hv | ⟨_, rfl, hv⟩⟩ := hx <;> exact key _ _ _ hv hq.symm
        | _ => rw [hxx] at hq; simp [capP] at hq
      · simp at hq
    · rename_i x y t t' hargs hty
      obtain rfl : args = #[x, y] := by apply Array.ext'; simpa using hargs
      have hx := h.ev x
      have hy := h.ev y
      unfold maxP at hq
      split at hq
      · rename_i k a k' b ex ey
        rw [ex] at hx
        rw [ey] at hy
        simp only [Rep] at hx hy
        obtain rfl := Option.some.inj hq
        exact ⟨.int k (if b > a then b else a), by simp [execOp, resolve, invoke, builtin, hx, hy, run_max_int2], by simp [Rep]⟩
      · simp at hq
    · simp at hq
  | _ => simp [qv] at hq

end Go.Proofs.Ytfjdfnlkobeehaa
end

section
set_option linter.unusedVariables false
set_option linter.unusedSimpArgs false
namespace Go.Proofs.Ytfjdfnlkobeehaa

def bytesT (P : Program) (t : TypeId) : Option Nat := (P.info? t).map (·.bytes)

def repl {α : Type} (n : Nat) (l : List α) : List α := (List.replicate n l).flatten


def PS.new (st : PS) (cs : List PV) : PS := { st with H := upd st.H st.nx (some cs), nx := st.nx + 1 }

def pStore (P : Program) (st : PS) (t : TypeId) (p x : PV) (K : PS → Prop) : Prop :=
  ∃ n, sizeT P t = some n ∧ 0 < n ∧ ∃ id off, p = .ptr id off ∧ ∃ cs, st.H id = some cs ∧ off + n ≤ cs.length ∧ (cellsP x).length = n ∧ (cellsP x).all oneP = true ∧
    K { st with H := upd st.H id (some (spl cs off (cellsP x))) }

def pAlloc (P : Program) (st : PS) (e : TypeId) (K : PV → PS → Prop) : Prop :=
  ∃ z, zeroT P e = some z ∧ K (.ptr st.nx 0) (st.new (z.map .val))

def pBox (st : PS) (x : PV) (K : PV → PS → Prop) : Prop :=
  isAny x = false ∧ K (.ptr st.nx 0) (st.new (cellsP x))

def pMake (P : Program) (st : PS) (t : TypeId) (l c : PV) (K : PV → PS → Prop) : Prop :=
  ∃ e, elemT P t = some e ∧ ∃ sz, sizeT P e = some sz ∧ ∃ b, bytesT P e = some b ∧ ∃ z, zeroT P e = some z ∧ z.length = sz ∧
    ∃ k n k' m, l = .val (.int k n) ∧ c = .val (.int k' m) ∧ 0 ≤ n ∧ n ≤ m ∧ (b : Int) * m ≤ 281474976710656 ∧ m ≤ 281474976710656 ∧
    K (.ref st.nx 0 n.toNat m.toNat sz) (st.new (repl m.toNat (z.map .val)))

def fillP (st : PS) (sz : Nat) : List (Nat × Operand) → List PV → Option (List PV)
  | [], cs => some cs
  | (i, x) :: ps, cs => if (cellsP (st.ev x)).length = sz ∧ i * sz + sz ≤ cs.length ∧ isAny (st.ev x) = false then fillP st sz ps (spl cs (i * sz) (cellsP (st.ev x))) else none

def pBuildSlice (P : Program) (st : PS) (t : TypeId) (n : Nat) (parts : List (Nat × Operand)) (K : PV → PS → Prop) : Prop :=
  ∃ e, elemT P t = some e ∧ ∃ sz, sizeT P e = some sz ∧ n * sz ≤ 16777216 ∧ ∃ z, zeroT P e = some z ∧ z.length = sz ∧
    ∃ cs, fillP st sz parts (repl n (z.map .val)) = some cs ∧ K (.ref st.nx 0 n n sz) (st.new cs)


def srcP (H : Nat → Option (List PV)) (sz : Nat) (y : PV) : Option (Nat × List PV) :=
  match y with
  | .sl n cs => if cs.length = n * sz then some (n, cs) else none
  | .ref id off n _ _ => match H id with
    | some cs => if off + n * sz ≤ cs.length then some (n, (cs.drop off).take (n * sz)) else none
    | none => none
  | .val (.slice none 0 0) => some (0, [])
  | _ => none

def pGrow (st : PS) (sz need : Nat) (cs : List PV) (K : PV → PS → Prop) : Prop :=
  ∀ (cap : Nat) (rest : List Value), need ≤ cap → cap < 9223372036854775808 → rest.length = (cap - need) * sz → K (.ref st.nx 0 need cap sz) (st.new (cs ++ rest.map .val))

def pAppend (P : Program) (st : PS) (t t' : TypeId) (x y : PV) (K : PV → PS → Prop) : Prop :=
  ∃ e, elemT P t = some e ∧ (elemT P t').isSome = true ∧ ∃ sz, sizeT P e = some sz ∧ ∃ b, bytesT P e = some b ∧ ∃ z, zeroT P e = some z ∧ z.length = sz ∧
    ∃ m ys, srcP st.H sz y = some (m, ys) ∧ ys.all oneP = true ∧
    match x with
    | .ref id off n cap _ => ∃ cs, st.H id = some cs ∧ off + n * sz ≤ cs.length ∧ (n + m) * b ≤ 140737488355328 ∧ n + m ≤ 140737488355328 ∧
        ((n + m ≤ cap → off + (n + m) * sz ≤ cs.length ∧ K (.ref id off (n + m) cap sz) { st with H := upd st.H id (some (spl cs (off + n * sz) ys)) }) ∧
         (cap < n + m → pGrow st sz (n + m) ((cs.drop off).take (n * sz) ++ ys) K))
    | .val (.slice none 0 0) => m * b ≤ 140737488355328 ∧ m ≤ 140737488355328 ∧
        ((m = 0 → K (.val (.slice none 0 0)) st) ∧ (0 < m → pGrow st sz m ys K))
    | _ => False

def pCopy (P : Program) (st : PS) (t : TypeId) (x y : PV) (K : PV → PS → Prop) : Prop :=
  ∃ e, elemT P t = some e ∧ sizeT P e = some 1 ∧ ∃ m ys, srcP st.H 1 y = some (m, ys) ∧ ys.all oneP = true ∧
    match x with
    | .ref id off n _ _ => ∃ cs, st.H id = some cs ∧ off + n ≤ cs.length ∧ K (.val (.int .i64 (Nat.min m n : Nat))) { st with H := upd st.H id (some (spl cs off (ys.take (Nat.min m n)))) }
    | _ => False

def pRange (P : Program) (st : PS) (t : TypeId) (x : PV) (K : PV → PS → Prop) : Prop :=
  strT P t = true ∧ ∃ s, x = .val (.string s) ∧ K (.ptr st.nx 0) { st with it := upd st.it st.nx (some (s, 0)), nx := st.nx + 1 }

def pNext (st : PS) (x : PV) (K : PV → PS → Prop) : Prop :=
  ∃ id, x = .ptr id 0 ∧ ∃ s pos, st.it id = some (s, pos) ∧
    ((pos < s.size → K (.tup [.val (.bool true), .val (.int .i64 pos), .val (.int .i32 (Utf8.decode s pos).1)]) { st with it := upd st.it id (some (s, pos + (Utf8.decode s pos).2)) }) ∧
     (s.size ≤ pos → K (.tup [.val (.bool false)]) st))


def okFn (P : Program) (f : FuncId) : Bool := match P.funcs[f]? with
  | some fn => fn.body.isSome && !(fn.name == "runtime.NumGoroutine")
  | none => false


def PCalls (P : Program) (f : FuncId) (args : List PV) (H : Nat → Option (List PV)) (nx : Nat) (Q : PV → (Nat → Option (List PV)) → Nat → Prop) : Prop :=
  okFn P f = true ∧ ∀ (w : World) (vs : List Value) (ρ : Nat → Nat) (A0 : Nat → Prop), (∀ b, A0 b → b < w.heap.size) → OwnOK (fun _ => False) A0 w ρ H (fun _ => none) nx →
    RepL (enOf A0 w ρ H (fun _ => none) nx) args vs →
    Calls P f vs.toArray w (fun e w' => ∃ v r H' nx' ρ', e = .returned v ∧ Q r H' nx' ∧ nx ≤ nx' ∧ (∀ i, i < nx → ρ' i = ρ i) ∧
      OwnOK (fun b => b < w.heap.size ∧ ¬ OwnB ρ H (fun _ => none) b) A0 w' ρ' H' (fun _ => none) nx' ∧ Rep (enOf A0 w' ρ' H' (fun _ => none) nx') r v ∧
      (∀ b, b < w.heap.size → ¬ OwnB ρ H (fun _ => none) b → w'.heap[b]? = w.heap[b]?) ∧ w.heap.size ≤ w'.heap.size ∧ Sw w w')

theorem PCalls.mono {P : Program} {f : FuncId} {args : List PV} {H : Nat → Option (List PV)} {nx : Nat} {Q Q' : PV → (Nat → Option (List PV)) → Nat → Prop}
    (h : PCalls P f args H nx Q) (hq : ∀ r H' nx', Q r H' nx' → Q' r H' nx') : PCalls P f args H nx Q' := ⟨h.1, fun w vs ρ A0 h1 h2 h3 =>
  (h.2 w vs ρ A0 h1 h2 h3).mono fun _ _ ⟨v, r, H', nx', ρ', he, hQ, rest⟩ => ⟨v, r, H', nx', ρ', he, hq _ _ _ hQ, rest⟩⟩

mutual

def shift (k : Nat) : PV → PV
  | .any => .any
  | .val v => .val v
  | .sl n cs => .sl n (shiftL k cs)
  | .ref id off n cap sz => .ref (id + k) off n cap sz
  | .ptr id off => .ptr (id + k) off
  | .rp cs => .rp (shiftL k cs)
  | .agg cs => .agg (shiftL k cs)
  | .tup cs => .tup (shiftL k cs)
  | .fn f cs => .fn f (shiftL k cs)
def shiftL (k : Nat) : List PV → List PV
  | [] => []
  | c :: cs => shift k c :: shiftL k cs
end

mutual

def flat : PV → Bool
  | .any => true
  | .val _ => true
  | .sl _ cs => flatL cs
  | .ref .. => false
  | .ptr .. => false
  | .rp cs => flatL cs
  | .agg cs => flatL cs
  | .tup cs => flatL cs
  | .fn _ cs => flatL cs
def flatL : List PV → Bool
  | [] => true
  | c :: cs => flat c && flatL cs
end

mutual

def closed : PV → Bool
  | .any => true
  | .val _ => true
  | .sl _ cs => cs.isEmpty
  | .ref .. => true
  | .ptr .. => true
  | .rp cs => cs.isEmpty
  | .agg cs => closedL cs
  | .tup cs => closedL cs
  | .fn _ cs => closedL cs
def closedL : List PV → Bool
  | [] => true
  | c :: cs => closed c && closedL cs
end


def view1 (H : Nat → Option (List PV)) : PV → PV
  | .val (.slice none 0 0) => .sl 0 []
  | .ref id off n cap sz => match H id with
    | some cs => if off + n * sz ≤ cs.length then .sl n ((cs.drop off).take (n * sz)) else .ref id off n cap sz
    | none => .ref id off n cap sz
  | .ptr id off => match H id with
    | some cs => .rp (cs.drop off)
    | none => .ptr id off
  | p => p

def view (H : Nat → Option (List PV)) : PV → PV
  | .agg cs => .agg (cs.map (view1 H))
  | .val (.agg vs) => .agg (vs.toList.map fun v => view1 H (.val v))
  | p => view1 H p


def joinH (H : Nat → Option (List PV)) (nx : Nat) (H' : Nat → Option (List PV)) : Nat → Option (List PV) :=
  fun i => if i < nx then H i else (H' (i - nx)).map (shiftL nx)


def WF (st : PS) : Prop := ∀ i, st.nx ≤ i → st.H i = none


def callP (P : Program) (f : FuncId) (args : List PV) (st : PS) (K : PV → PS → Prop) : Prop :=
  flatL (args.map (view st.H)) = true ∧
  PCalls P f (args.map (view st.H)) (fun _ => none) 0 fun r H' nx' =>
    (flatL args = false → closed r = true ∧ ∀ i cs, H' i = some cs → closedL cs = true) ∧
    (WF st → (∀ i, nx' ≤ i → H' i = none) → K (shift st.nx r) { st with H := joinH st.H st.nx H', nx := st.nx + nx' })


def callM (P : Program) (f : FuncId) (args : List PV) (st : PS) (K : PV → PS → Prop) : Prop :=
  PCalls P f args st.H st.nx fun r H' nx' => WF st → (∀ i, nx' ≤ i → H' i = none) → st.nx ≤ nx' → K r { st with H := H', nx := nx' }


def GhV (r : PV) (st : PS) (r1 : PV) (st1 : PS) : Prop :=
  ∀ (c : Cx) (a : Act) (w : World) (v : Value), (∃ ρ, Rr c st a w ρ ∧ Rep (enOf c.A0 w ρ st.H st.it st.nx) r v) → ∃ ρ, Rr c st1 a w ρ ∧ Rep (enOf c.A0 w ρ st1.H st1.it st1.nx) r1 v

def ghK (K : PV → PS → Prop) (r : PV) (st : PS) : Prop := ∃ r1 st1, GhV r st r1 st1 ∧ K r1 st1


def GhA (l : List PV) (st : PS) (l1 : List PV) (st1 : PS) : Prop :=
  ∀ (c : Cx) (a : Act) (w : World) (vs : List Value), (∃ ρ, Rr c st a w ρ ∧ RepL (enOf c.A0 w ρ st.H st.it st.nx) l vs) → ∃ ρ, Rr c st1 a w ρ ∧ RepL (enOf c.A0 w ρ st1.H st1.it st1.nx) l1 vs
theorem GhA.refl (l : List PV) (st : PS) : GhA l st l st := fun _ _ _ _ h => h


def pCall (P : Program) (f : FuncId) (args : List PV) (st : PS) (K : PV → PS → Prop) : Prop :=
  ∃ args1 st1, GhA args st args1 st1 ∧ (callP P f args1 st1 (ghK K) ∨ callM P f args1 st1 (ghK K))

def pOp (P : Program) (o : Oper) (K : PS → Prop) (st : PS) : Prop :=
  match o.op with
  | .store t p x => pStore P st t (st.ev p) (st.ev x) fun st' => K (st'.put o.dst (.val undef))
  | .alloc e => pAlloc P st e fun r st' => K (st'.put o.dst r)
  | .box e x => pBox st (st.ev x) fun r st' => K (st'.put o.dst r)
  | .makeSlice t l c => pMake P st t (st.ev l) (st.ev c) fun r st' => K (st'.put o.dst r)
  | .buildSlice t n parts => pBuildSlice P st t n parts.toList fun r st' => K (st'.put o.dst r)
  | .range t x => pRange P st t (st.ev x) fun r st' => K (st'.put o.dst r)
  | .next x true => pNext st (st.ev x) fun r st' => K (st'.put o.dst r)
  | .call c => match c.callee, c.args.toList, c.argTypes.toList with
    | .builtin .append, [x, y], [t, t'] => pAppend P st t t' (st.ev x) (st.ev y) fun r st' => K (st'.put o.dst r)
    | .builtin .copy, [x, y], [t, _] => pCopy P st t (st.ev x) (st.ev y) fun r st' => K (st'.put o.dst r)
    | .value f, args, _ => ∃ g caps, st.ev f = .fn g caps ∧ pCall P g (args.map st.ev ++ caps) st fun r st' => K (st'.put o.dst r)
    | _, _, _ => ∃ p, qv P st (.call c) = some p ∧ K (st.put o.dst p)
  | op => ∃ p, qv P st op = some p ∧ K (st.put o.dst p)


def pGuard (ops : Array Oper) (st : PS) (o : Oper) (run skip : Prop) : Prop :=
  match o.guard with
  | none => run
  | some (j, want) => match (ops[j]?).bind (·.dst) with
    | none => False
    | some d => match st.sl d with
      | .val (.bool b) => (b = want → run) ∧ (b ≠ want → skip)
      | .val (.tuple _) => skip
      | _ => False

def pOps (P : Program) (ops : Array Oper) (K : PS → Prop) : List Oper → PS → Prop
  | [], st => K st
  | o :: rest, st => pGuard ops st o (pOp P o (pOps P ops K rest) st) (pOps P ops K rest (st.put o.dst (.val undef)))

end Go.Proofs.Ytfjdfnlkobeehaa
end

section
set_option linter.unusedVariables false
set_option linter.unusedSimpArgs false
namespace Go.Proofs.Ytfjdfnlkobeehaa

variable {P : Program}

theorem setCell_heap {w : World} {b o : Nat} {v : Value} {c : Array Value} {e : TypeId} {f : Nat × Nat} (h : w.heap[b]? = some (.cells c e f)) :
    (w.setCell ⟨b, o, none⟩ v).heap = w.heap.setIfInBounds b (.cells (c.setIfInBounds o v) e f) := by
  apply Array.ext_getElem?
  intro i
  unfold World.setCell
  simp only [Array.getElem?_modify, Array.getElem?_setIfInBounds]
  by_cases hi : b = i
  · subst hi
    have := lt_of_heap h
    rw [h]
    simp [this]
  · simp [hi]

theorem setCells_sw (b : Nat) : ∀ (vs : List Value) (o : Nat) (w : World), Sw w (w.setCells b o vs)
  | [], _, w => by simp only [World.setCells]; exact Sw.refl w
  | v :: vs, o, w => by
    simp only [World.setCells]
    exact Sw.trans ⟨rfl, rfl, rfl⟩ (setCells_sw b vs (o + 1) _)

theorem setCells_heap (b : Nat) {e : TypeId} {f : Nat × Nat} : ∀ (vs : List Value) (o : Nat) (w : World) (c : Array Value), w.heap[b]? = some (.cells c e f) → o + vs.length ≤ c.size →
    (w.setCells b o vs).heap = w.heap.setIfInBounds b (.cells (spl c.toList o vs).toArray e f)
  | [], o, w, c, h, _ => by
    have : (spl c.toList o []).toArray = c := by apply Array.ext'; simp [spl]
    rw [this]
    apply Array.ext_getElem?
    intro i
    simp only [World.setCells, Array.getElem?_setIfInBounds]
    by_cases hi : b = i
    · subst hi
      have := lt_of_heap h
      rw [h]
      simp [this]
    · simp [hi]
  | v :: vs, o, w, c, h, hl => by
    simp only [List.length_cons] at hl
    have h1 := setCell_heap (o := o) (v := v) h
    have hb := lt_of_heap h
    have h2 : (w.setCell ⟨b, o, none⟩ v).heap[b]? = some (.cells (c.setIfInBounds o v) e f) := by rw [h1]; simp [hb]
    rw [World.setCells, setCells_heap b vs (o + 1) _ _ h2 (by simp; omega), h1]
    apply Array.ext_getElem?
    intro i
    simp only [Array.getElem?_setIfInBounds]
    by_cases hi : b = i
    · subst hi
      simp only [Array.size_setIfInBounds, hb, if_true]
      congr 2
      apply congrArg List.toArray
      apply List.ext_getElem?
      intro j
      rw [spl_get (by simp; omega), spl_get (by simp; omega)]
      simp only [Array.toList_setIfInBounds, List.getElem?_set, List.length_cons]
      by_cases h3 : j < o
      · have e1 : j < o + 1 := by omega
        have e2 : ¬ o = j := by omega
        simp [h3, e1, e2]
      · by_cases h4 : j = o
        · subst h4
          have e4 : j < c.size := by omega
          simp [e4]
        · have e1 : ¬ j < o + 1 := by omega
          have e2 : ¬ o = j := by omega
          simp only [h3, e1, e2, if_false]
          by_cases h5 : j < o + 1 + vs.length
          · rw [if_pos h5, if_pos (by omega), show j - o = j - (o + 1) + 1 from by omega, List.getElem?_cons_succ]
          · rw [if_neg h5, if_neg (by omega)]
    · simp [hi]

theorem oneP_rep {E : En} {p : PV} {v : Value} (h : Rep E p v) (hp : oneP p = true) : v.oneCell' = true := by
  cases p with
  | any => simp [oneP] at hp
  | agg _ => simp [oneP] at hp
  | tup _ => simp [oneP] at hp
  | val x => simp only [Rep] at h; subst h; exact hp
  | sl n cs => simp only [Rep] at h; rcases h with ⟨_, _, ad, rfl⟩ | ⟨b, o, cap, rfl, _⟩ <;> rfl
  | ref id off n cap z => simp only [Rep] at h; obtain ⟨_, _, rfl | ⟨_, _, rfl⟩⟩ := h <;> rfl
  | ptr id off => simp only [Rep] at h; obtain ⟨_, rfl⟩ := h; rfl
  | rp cs => simp only [Rep] at h; obtain ⟨_, _, rfl, _⟩ := h; rfl
  | fn f cs => simp only [Rep] at h; obtain ⟨_, rfl, _⟩ := h; rfl

theorem oneP_repL {E : En} : ∀ {cs : List PV} {vs : List Value}, RepL E cs vs → cs.all oneP = true → ∀ v ∈ vs, v.oneCell' = true
  | [], [], _, _, v, hv => by simp at hv
  | c :: cs, u :: vs, h, ho, v, hv => by
    simp only [RepL] at h
    simp only [List.all_cons, Bool.and_eq_true] at ho
    rcases List.mem_cons.1 hv with rfl | hv
    · exact oneP_rep h.1 ho.1
    · exact oneP_repL h.2 ho.2 v hv
  | [], _ :: _, h, _, _, _ => by simp [RepL] at h
  | _ :: _, [], h, _, _, _ => by simp [RepL] at h

theorem isAny_of_one {p : PV} (h : (cellsP p).all oneP = true) : isAny p = false := by
  cases p <;> first | rfl | (simp [cellsP, oneP] at h)

theorem storeVar_run {t : TypeId} {n b o : Nat} {v : Value} {w : World} {c : Array Value} {e : TypeId} (hs : sizeT P t = some n) (hc : w.heap[b]? = some (.cells c e (0, 0))) (hn : v.cells.size = n)
    (hl : o + n ≤ c.size) (h1 : ∀ u ∈ v.cells.toList, u.oneCell' = true) : (storeVar t ⟨b, o, none⟩ v).run P w = .ok () (w.setCells b o v.cells.toList) := by
  have := run_storeCells_cells (P := P) b o v.cells.toList 0 w (fun j hj => by
      rw [cell_of hc]; simp at hj; simp; omega) (fun j hj => by simp [World.frozen?, hc]) h1
  simp only [Nat.add_zero] at this
  simp [storeVar, sizeT_some hs, hn, this]

theorem Rr.newPut {c : Cx} {st : PS} {a : Act} {w : World} {ρ : Nat → Nat} (h : Rr c st a w ρ) {cs : List PV} {vs : Array Value} {e : TypeId}
    (hr : RepL (enOf c.A0 w ρ st.H st.it st.nx) cs vs.toList) {w' : World} (hw : w'.heap = w.heap.push (.cells vs e (0, 0)))
    {d : Option Nat} (hd : ∀ x, d = some x → x < c.n) {p : PV} {v : Value}
    (hp : (∃ off, p = .ptr st.nx off ∧ v = .pointer (some ⟨w.heap.size, off, none⟩)) ∨ (∃ off n cap sz, n ≤ cap ∧ p = .ref st.nx off n cap sz ∧ v = .slice (some ⟨w.heap.size, off, none⟩) n cap)) (hs : Sw w w' := by exact ⟨rfl, rfl, rfl⟩) :
    R c ((st.new cs).put d p) (a.put d v) w' := by
  have h' := h.new hr hw hs
  refine ⟨_, h'.put hd (p := p) (v := v) ?_⟩
  rcases hp with ⟨off, rfl, rfl⟩ | ⟨off, n, cap, sz, hle, rfl, rfl⟩
  · simp only [Rep]; exact ⟨Nat.lt_succ_self _, by rw [upd_self]⟩
  · simp only [Rep]; exact ⟨Nat.lt_succ_self _, hle, .inl (by rw [upd_self])⟩

theorem made_eq {z : Array Value} {n : Nat} (h : z.size = n) : ∀ m : Nat, (madeCells z (m * n)).toList = repl m z.toList := by
  subst h
  intro m
  apply List.ext_getElem
  · simp [madeCells, repl]
  · intro i h1 h2
    simp [madeCells] at h1
    have hz : 0 < z.size := by
      rcases Nat.eq_zero_or_pos z.size with h0 | h0
      · simp [h0] at h1
      · exact h0
    have key : ∀ (m i : Nat) (h : i < (repl m z.toList).length), (repl m z.toList)[i] = z[i % z.size]'(Nat.mod_lt _ hz) := by
      intro m
      induction m with
      | zero => intro i h; simp [repl] at h
      | succ m ih =>
        intro i h
        have e : repl (m + 1) z.toList = z.toList ++ repl m z.toList := by simp [repl, List.replicate_succ]
        simp only [e] at h ⊢
        rw [List.getElem_append]
        split
        · rename_i hi
          simp at hi
          simp [Nat.mod_eq_of_lt hi]
        · rename_i hi
          simp at hi
          have h3 : i - z.size < (repl m z.toList).length := by
            have h4 := h
            simp only [List.length_append, Array.length_toList] at h4
            omega
          have := ih (i - z.size) h3
          simp only [Array.length_toList]
          rw [this]
          congr 1
          rw [Nat.mod_eq_sub_mod hi]
    rw [key m i h2]
    simp [madeCells, Nat.mod_lt _ hz]

theorem repl_map {α β : Type} (f : α → β) (n : Nat) (l : List α) : repl n (l.map f) = (repl n l).map f := by
  simp [repl, List.map_flatten]

theorem bytesT_some {t : TypeId} {b : Nat} (h : bytesT P t = some b) : ∃ i, P.info? t = some i ∧ i.bytes = b := by
  unfold bytesT at h
  cases hi : P.info? t with
  | none => simp [hi] at h
  | some i => simp [hi] at h; exact ⟨i, rfl, h⟩

theorem info_all {t : TypeId} {b sz : Nat} {z : List Value} (hb : bytesT P t = some b) (hs : sizeT P t = some sz) (hz : zeroT P t = some z) :
    ∃ i v, P.info? t = some i ∧ i.bytes = b ∧ i.size = sz ∧ i.zero = some v ∧ v.cells.toList = z := by
  obtain ⟨i, hi, rfl⟩ := bytesT_some hb
  unfold sizeT at hs
  unfold zeroT at hz
  rw [hi] at hs hz
  simp at hs hz
  obtain ⟨v, hv, rfl⟩ := hz
  exact ⟨i, v, hi, rfl, hs, hv, rfl⟩

theorem fillP_sound {c : Cx} {st : PS} {a : Act} {w : World} {ρ : Nat → Nat} (h : Rr c st a w ρ) {sz : Nat} :
    ∀ (ps : List (Nat × Operand)) (cs : List PV) (vs : List Value) (out : List PV), RepL (enOf c.A0 w ρ st.H st.it st.nx) cs vs → fillP st sz ps cs = some out →
    ∃ us : List Value, Instr.fill (fun i => some (i * sz, sz)) vs.toArray (ps.map fun p => (p.1, a.eval p.2)) = some us.toArray ∧ RepL (enOf c.A0 w ρ st.H st.it st.nx) out us
  | [], cs, vs, out, hr, hb => by
    simp [fillP] at hb; subst hb
    exact ⟨vs, by simp [Instr.fill], hr⟩
  | (i, x) :: ps, cs, vs, out, hr, hb => by
    simp only [fillP] at hb
    split at hb
    · rename_i hc
      obtain ⟨h1, h2, h3⟩ := hc
      have hcr := cells_rep (h.ev x) h3
      obtain ⟨us, hfill, hus⟩ := fillP_sound h ps _ _ out (RepL.spl (i * sz) hr hcr) hb
      refine ⟨us, ?_, hus⟩
      have hlen := RepL.length hcr
      have hlen2 := RepL.length hr
      have hsz : (a.eval x).cells.size = sz := by rw [← h1, hlen]; simp
      have e2 : ((a.eval x).cells.size ≠ sz) = False := by simp [hsz]
      have e3 : (i * sz + (a.eval x).cells.size > vs.toArray.size) = False := by
        simp; rw [← hlen2]; omega
      simp only [List.map_cons, Instr.fill, e2, e3]
      have := foldl_set (a.eval x).cells.toList (i * sz) vs.toArray (by simp [hsz]; omega)
      have e4 : ((a.eval x).cells.zipIdx.foldl (fun cs (c, j) => cs.setIfInBounds (i * sz + j) c) vs.toArray) = (spl vs (i * sz) (a.eval x).cells.toList).toArray := by
        rw [← Array.foldl_toList, Array.toList_zipIdx]
        exact this
      rw [if_neg (by simp), e4]
      exact hfill
    · simp at hb


theorem Rr.newIter {c : Cx} {st : PS} {a : Act} {w : World} {ρ : Nat → Nat} (h : Rr c st a w ρ) {s : ByteArray} {w' : World} (hw : w'.heap = w.heap.push (.stringIter s 0)) (hs : Sw w w' := by exact ⟨rfl, rfl, rfl⟩) :
    Rr c { st with it := upd st.it st.nx (some (s, 0)), nx := st.nx + 1 } a w' (upd ρ st.nx w.heap.size) := by
  have hnone : st.H st.nx = none := by
    cases hc : st.H st.nx with
    | none => rfl
    | some x => exact absurd (h.own.bound st.nx (.inl (by simp [hc]))) (Nat.lt_irrefl _)
  have hold : ∀ b, b < w.heap.size → w'.heap[b]? = w.heap[b]? := fun b hb => by
    rw [hw, Array.getElem?_push]; simp [Nat.ne_of_lt hb]
  have hlive : ∀ i, Live st.H (upd st.it st.nx (some (s, 0))) i → i = st.nx ∨ (i ≠ st.nx ∧ i < st.nx ∧ Live st.H st.it i) := by
    intro i hl
    by_cases hi : i = st.nx
    · exact .inl hi
    · have hl' : Live st.H st.it i := by
        rcases hl with hl | hx
        · exact .inl hl
        · rw [upd_ne _ _ hi] at hx; exact .inr hx
      exact .inr ⟨hi, Live.lt h.own hl', hl'⟩
  have hle : En.le (enOf c.A0 w ρ st.H st.it st.nx) (enOf c.A0 w' (upd ρ st.nx w.heap.size) st.H (upd st.it st.nx (some (s, 0))) (st.nx + 1)) := by
    refine ⟨fun b o v _ hv => ?_, fun b o v hA hv hA' => ?_, Nat.le_succ _, fun i hi => upd_ne _ _ (Nat.ne_of_lt hi)⟩
    · exact (cell_congr (hold b (lt_of_cell hv))).trans hv
    · rcases hA' with h0 | ⟨i, hl, hb⟩
      · exact hA (.inl h0)
      · rcases hlive i hl with hi | ⟨hi, _, hl'⟩
        · subst hi; rw [upd_self] at hb; have := lt_of_cell hv; simp at this; omega
        · rw [upd_ne _ _ hi] at hb; exact hA (.inr ⟨i, hl', hb⟩)
  refine ⟨⟨fun i hi => ?_, fun i ds hd hne => ?_, fun i j hi hj he => ?_, fun i ds hd hne => ?_, fun i s' p hi => ?_, fun i hi => ?_⟩, fun t => Rep.mono hle _ _ (h.slots t), h.size, h.defers,
    fun b hb => ?_, ?_, Nat.le_succ_of_le h.ids, fun i hi => ?_, h.fF, h.fA, h.sw.trans hs⟩
  · by_cases hx : i = st.nx
    · exact hx ▸ Nat.lt_succ_self _
    · simp only [upd_ne _ _ hx] at hi; exact Nat.lt_succ_of_lt (h.own.bound i hi)
  · have hd : st.H i = some ds := hd
    by_cases hx : i = st.nx
    · subst hx; simp [hnone] at hd
    · show upd st.it st.nx (some (s, 0)) i = none
      rw [upd_ne _ _ hx]; exact h.own.excl i ds hd hne
  · rcases hlive i hi with h1 | ⟨h1, _, hl1⟩ <;> rcases hlive j hj with h2 | ⟨h2, _, hl2⟩
    · omega
    · subst h1; rw [upd_self, upd_ne _ _ h2] at he; have := h.own.lt hl2; omega
    · subst h2; rw [upd_self, upd_ne _ _ h1] at he; have := h.own.lt hl1; omega
    · rw [upd_ne _ _ h1, upd_ne _ _ h2] at he; exact h.own.inj i j hl1 hl2 he
  · have hd : st.H i = some ds := hd
    have hx : i ≠ st.nx := fun e => by subst e; simp [hnone] at hd
    obtain ⟨us, e', hb, hr'⟩ := h.own.blk i ds hd hne
    exact ⟨us, e', by rw [upd_ne _ _ hx, hold _ (lt_of_heap hb)]; exact hb, RepL.mono hle _ _ hr'⟩
  · have hi : upd st.it st.nx (some (s, 0)) i = some (s', p) := hi
    by_cases hx : i = st.nx
    · subst hx
      rw [upd_self] at hi; simp at hi
      obtain ⟨rfl, rfl⟩ := hi
      rw [upd_self, hw]; simp
    · rw [upd_ne _ _ hx] at hi
      have := h.own.itb i s' p hi
      rw [upd_ne _ _ hx, hold _ (lt_of_heap this)]; exact this
  · rcases hlive i hi with h1 | ⟨h1, _, hl1⟩
    · subst h1; rw [upd_self]
      exact ⟨fun hF => by have := h.fF _ hF; have := h.grow; omega, fun hA => by have := h.fA _ hA; have := h.grow; omega⟩
    · rw [upd_ne _ _ h1]; exact h.own.out i hl1
  · rw [hold b (Nat.lt_of_lt_of_le (h.fF b hb) h.grow)]; exact h.frame b hb
  · rw [hw]; simp; have := h.grow; omega
  · rw [upd_ne _ _ (Nat.ne_of_lt (Nat.lt_of_lt_of_le hi h.ids))]; exact h.ρk i hi


theorem Rr.setIter {c : Cx} {st : PS} {a : Act} {w : World} {ρ : Nat → Nat} (h : Rr c st a w ρ) {id : Nat} {s : ByteArray} {p p' : Nat} (hc : st.it id = some (s, p))
    {w' : World} (hw : w'.heap = w.heap.setIfInBounds (ρ id) (.stringIter s p')) (hs : Sw w w' := by exact ⟨rfl, rfl, rfl⟩) : Rr c { st with it := upd st.it id (some (s, p')) } a w' ρ := by
  have hid : Live st.H st.it id := .inr (by simp [hc])
  have hold : ∀ b, b ≠ ρ id → w'.heap[b]? = w.heap[b]? := fun b hb => by
    rw [hw, Array.getElem?_setIfInBounds]; simp [Ne.symm hb]
  have hlive : ∀ i, Live st.H (upd st.it id (some (s, p'))) i ↔ Live st.H st.it i := by
    intro i
    by_cases hi : i = id
    · subst hi; exact ⟨fun _ => hid, fun _ => .inr (by rw [upd_self]; simp)⟩
    · unfold Live; rw [upd_ne _ _ hi]
  have hA : ∀ b, (c.A0 b ∨ OwnB ρ st.H (upd st.it id (some (s, p'))) b) ↔ (c.A0 b ∨ OwnB ρ st.H st.it b) := by
    intro b; unfold OwnB; simp only [hlive]
  have hle : En.le (enOf c.A0 w ρ st.H st.it st.nx) (enOf c.A0 w' ρ st.H (upd st.it id (some (s, p'))) st.nx) := by
    refine ⟨fun b o v hn hv => ?_, fun b o v hn hv hA' => hn ((hA b).1 hA'), Nat.le_refl _, fun i hi => rfl⟩
    exact (cell_congr (hold b fun e => hn (.inr ⟨id, hid, e.symm⟩))).trans hv
  have hlt := h.own.lt hid
  refine ⟨⟨fun i hi => ?_, fun i ds hd hnd => ?_, fun i j hi hj he => ?_, fun i ds hd hnd => ?_, fun i s' q hi => ?_, fun i hi => ?_⟩, fun t => Rep.mono hle _ _ (h.slots t), h.size, h.defers,
    fun b hb => ?_, ?_, h.ids, h.ρk, h.fF, h.fA, h.sw.trans hs⟩
  · by_cases hx : i = id
    · subst hx; exact h.own.bound i (.inr (by simp [hc]))
    · simp only [upd_ne _ _ hx] at hi; exact h.own.bound i hi
  · have hd : st.H i = some ds := hd
    by_cases hx : i = id
    · subst hx; have := h.own.excl i ds hd hnd; simp [hc] at this
    · show upd st.it id (some (s, p')) i = none
      rw [upd_ne _ _ hx]; exact h.own.excl i ds hd hnd
  · exact h.own.inj i j ((hlive i).1 hi) ((hlive j).1 hj) he
  · have hd : st.H i = some ds := hd
    obtain ⟨us, e', hb, hr'⟩ := h.own.blk i ds hd hnd
    refine ⟨us, e', ?_, RepL.mono hle _ _ hr'⟩
    rw [hold _ fun e => ?_]; exact hb
    have := h.own.inj i id (.inl ⟨ds, hd, hnd⟩) hid e
    subst this; have := h.own.excl i ds hd hnd; simp [hc] at this
  · have hi : upd st.it id (some (s, p')) i = some (s', q) := hi
    by_cases hx : i = id
    · subst hx
      rw [upd_self] at hi; simp at hi
      obtain ⟨rfl, rfl⟩ := hi
      rw [hw, Array.getElem?_setIfInBounds]; simp [hlt]
    · rw [upd_ne _ _ hx] at hi
      rw [hold _ fun e => hx (h.own.inj i id (.inr (by simp [hi])) hid e)]; exact h.own.itb i s' q hi
  · exact h.own.out i ((hlive i).1 hi)
  · rw [hold b fun e => (h.own.out id hid).1 (e ▸ hb)]; exact h.frame b hb
  · rw [hw]; simpa using h.grow

end Go.Proofs.Ytfjdfnlkobeehaa
end

section
set_option linter.unusedVariables false
set_option linter.unusedSimpArgs false
namespace Go.Proofs.Ytfjdfnlkobeehaa

variable {P : Program}


structure Tr (k : Nat) (cl : Bool) (E E' : En) : Prop where
  nx : E.nx + k ≤ E'.nx
  ρ : ∀ i, i < E.nx → E'.ρ (i + k) = E.ρ i
  cell : cl = false → ∀ b o v, ¬ E.A b → E.w.cell? ⟨b, o, none⟩ = some v → E'.w.cell? ⟨b, o, none⟩ = some v ∧ ¬ E'.A b

mutual
theorem Rep.tr {k : Nat} {cl : Bool} {E E' : En} (h : Tr k cl E E') : ∀ (p : PV) (v : Value), (cl = true → closed p = true) → Rep E p v → Rep E' (shift k p) v
  | .any, _, _, _ => by simp [Rep, shift]
  | .val x, v, _, hr => by simpa [Rep, shift] using hr
  | .sl n cs, v, hc, hr => by
    simp only [Rep, shift] at hr ⊢
    rcases hr with ⟨rfl, rfl, a, rfl⟩ | ⟨b, o, cap, rfl, hcap, hr⟩
    · exact .inl ⟨rfl, rfl, a, rfl⟩
    refine .inr ⟨b, o, cap, rfl, hcap, ?_⟩
    cases cs with
    | nil => exact .inl rfl
    | cons c cs =>
      have hcl : cl = false := by
        cases cl with
        | false => rfl
        | true => have := hc rfl; simp [closed] at this
      rcases hr with hr | ⟨hA, hr⟩
      · simp at hr
      have hr' := hr
      simp only [Row] at hr'
      obtain ⟨⟨x, hx, _⟩, _⟩ := hr'
      refine .inr ⟨(h.cell hcl _ _ _ hA hx).2, Row.tr h hcl b o _ hA hr⟩
  | .ref id off n cap sz, v, _, hr => by
    simp only [Rep, shift] at hr ⊢
    obtain ⟨h1, h3, h2⟩ := hr
    exact ⟨by have := h.nx; omega, h3, by rw [h.ρ _ h1]; exact h2⟩
  | .ptr id off, v, _, hr => by
    simp only [Rep, shift] at hr ⊢
    obtain ⟨h1, h2⟩ := hr
    exact ⟨by have := h.nx; omega, by rw [h.ρ _ h1]; exact h2⟩
  | .rp cs, v, hc, hr => by
    simp only [Rep, shift] at hr ⊢
    obtain ⟨b, o, rfl, hr⟩ := hr
    refine ⟨b, o, rfl, ?_⟩
    cases cs with
    | nil => exact .inl rfl
    | cons c cs =>
      have hcl : cl = false := by
        cases cl with
        | false => rfl
        | true => have := hc rfl; simp [closed] at this
      rcases hr with hr | ⟨hA, hr⟩
      · simp at hr
      have hr' := hr
      simp only [Row] at hr'
      obtain ⟨⟨x, hx, _⟩, _⟩ := hr'
      refine .inr ⟨(h.cell hcl _ _ _ hA hx).2, Row.tr h hcl b o _ hA hr⟩
  | .agg cs, v, hc, hr => by
    simp only [Rep, shift] at hr ⊢
    obtain ⟨vs, rfl, hr⟩ := hr
    exact ⟨vs, rfl, RepL.tr h cs vs (by simpa only [closed] using hc) hr⟩
  | .tup cs, v, hc, hr => by
    simp only [Rep, shift] at hr ⊢
    obtain ⟨vs, rfl, hr⟩ := hr
    exact ⟨vs, rfl, RepL.tr h cs vs (by simpa only [closed] using hc) hr⟩
  | .fn f cs, v, hc, hr => by
    simp only [Rep, shift] at hr ⊢
    obtain ⟨vs, rfl, hr⟩ := hr
    exact ⟨vs, rfl, RepL.tr h cs vs (by simpa only [closed] using hc) hr⟩
theorem Row.tr {k : Nat} {cl : Bool} {E E' : En} (h : Tr k cl E E') (hcl : cl = false) (b o : Nat) : ∀ (cs : List PV), ¬ E.A b → Row E b o cs → Row E' b o (shiftL k cs)
  | [], _, _ => by simp [Row, shiftL]
  | c :: cs, hA, hr => by
    simp only [Row, shiftL] at hr ⊢
    obtain ⟨⟨v, hv, hr⟩, hrs⟩ := hr
    exact ⟨⟨v, (h.cell hcl _ _ _ hA hv).1, Rep.tr h c v (by simp [hcl]) hr⟩, Row.tr h hcl b (o + 1) cs hA hrs⟩
theorem RepL.tr {k : Nat} {cl : Bool} {E E' : En} (h : Tr k cl E E') : ∀ (cs : List PV) (vs : List Value), (cl = true → closedL cs = true) → RepL E cs vs → RepL E' (shiftL k cs) vs
  | [], [], _, _ => by simp [RepL, shiftL]
  | c :: cs, v :: vs, hc, hr => by
    simp only [RepL, shiftL] at hr ⊢
    exact ⟨Rep.tr h c v (fun e => by have := hc e; simp only [closedL, Bool.and_eq_true] at this; exact this.1) hr.1,
      RepL.tr h cs vs (fun e => by have := hc e; simp only [closedL, Bool.and_eq_true] at this; exact this.2) hr.2⟩
  | [], _ :: _, _, hr => by simp [RepL] at hr
  | _ :: _, [], _, hr => by simp [RepL] at hr
end

mutual
theorem Rep.flat {E E' : En} (h : ∀ b o v, ¬ E.A b → E.w.cell? ⟨b, o, none⟩ = some v → E'.w.cell? ⟨b, o, none⟩ = some v ∧ ¬ E'.A b) : ∀ (p : PV) (v : Value), Ytfjdfnlkobeehaa.flat p = true → Rep E p v → Rep E' p v
  | .any, _, _, _ => by simp [Rep]
  | .val x, v, _, hr => by simpa [Rep] using hr
  | .sl n cs, v, hf, hr => by
    simp only [Rep] at hr ⊢
    simp only [Ytfjdfnlkobeehaa.flat] at hf
    rcases hr with hr | ⟨b, o, cap, rfl, hcap, hr⟩
    · exact .inl hr
    refine .inr ⟨b, o, cap, rfl, hcap, ?_⟩
    cases cs with
    | nil => exact .inl rfl
    | cons c cs =>
      rcases hr with hr | ⟨hA, hr⟩
      · simp at hr
      have hr' := hr
      simp only [Row] at hr'
      obtain ⟨⟨x, hx, _⟩, _⟩ := hr'
      exact .inr ⟨(h _ _ _ hA hx).2, Row.flat h b o _ hf hA hr⟩
  | .ref id off n cap sz, v, hf, hr => by simp [Ytfjdfnlkobeehaa.flat] at hf
  | .ptr id off, v, hf, hr => by simp [Ytfjdfnlkobeehaa.flat] at hf
  | .rp cs, v, hf, hr => by
    simp only [Rep] at hr ⊢
    simp only [Ytfjdfnlkobeehaa.flat] at hf
    obtain ⟨b, o, rfl, hr⟩ := hr
    refine ⟨b, o, rfl, ?_⟩
    cases cs with
    | nil => exact .inl rfl
    | cons c cs =>
      rcases hr with hr | ⟨hA, hr⟩
      · simp at hr
      have hr' := hr
      simp only [Row] at hr'
      obtain ⟨⟨x, hx, _⟩, _⟩ := hr'
      exact .inr ⟨(h _ _ _ hA hx).2, Row.flat h b o _ hf hA hr⟩
  | .agg cs, v, hf, hr => by
    simp only [Rep] at hr ⊢
    simp only [Ytfjdfnlkobeehaa.flat] at hf
    obtain ⟨vs, rfl, hr⟩ := hr
    exact ⟨vs, rfl, RepL.flat h cs vs hf hr⟩
  | .tup cs, v, hf, hr => by
    simp only [Rep] at hr ⊢
    simp only [Ytfjdfnlkobeehaa.flat] at hf
    obtain ⟨vs, rfl, hr⟩ := hr
    exact ⟨vs, rfl, RepL.flat h cs vs hf hr⟩
  | .fn f cs, v, hf, hr => by
    simp only [Rep] at hr ⊢
    simp only [Ytfjdfnlkobeehaa.flat] at hf
    obtain ⟨vs, rfl, hr⟩ := hr
    exact ⟨vs, rfl, RepL.flat h cs vs hf hr⟩
theorem Row.flat {E E' : En} (h : ∀ b o v, ¬ E.A b → E.w.cell? ⟨b, o, none⟩ = some v → E'.w.cell? ⟨b, o, none⟩ = some v ∧ ¬ E'.A b) (b o : Nat) : ∀ (cs : List PV), flatL cs = true → ¬ E.A b → Row E b o cs → Row E' b o cs
  | [], _, _, _ => by simp [Row]
  | c :: cs, hf, hA, hr => by
    simp only [Row] at hr ⊢
    simp only [flatL, Bool.and_eq_true] at hf
    obtain ⟨⟨v, hv, hr⟩, hrs⟩ := hr
    exact ⟨⟨v, (h _ _ _ hA hv).1, Rep.flat h c v hf.1 hr⟩, Row.flat h b (o + 1) cs hf.2 hA hrs⟩
theorem RepL.flat {E E' : En} (h : ∀ b o v, ¬ E.A b → E.w.cell? ⟨b, o, none⟩ = some v → E'.w.cell? ⟨b, o, none⟩ = some v ∧ ¬ E'.A b) : ∀ (cs : List PV) (vs : List Value), flatL cs = true → RepL E cs vs → RepL E' cs vs
  | [], [], _, _ => by simp [RepL]
  | c :: cs, v :: vs, hf, hr => by
    simp only [RepL] at hr ⊢
    simp only [flatL, Bool.and_eq_true] at hf
    exact ⟨Rep.flat h c v hf.1 hr.1, RepL.flat h cs vs hf.2 hr.2⟩
  | [], _ :: _, _, hr => by simp [RepL] at hr
  | _ :: _, [], _, hr => by simp [RepL] at hr
end


abbrev En.all (E : En) : En := { E with A := fun _ => False }

theorem En.le_all (E : En) : E.le E.all := ⟨fun _ _ _ _ h => h, fun _ _ _ _ _ h => h, Nat.le_refl _, fun _ _ => rfl⟩

theorem view1_flat {E : En} {H : Nat → Option (List PV)} {p : PV} {v : Value} (hf : flat p = true) (hr : Rep E p v) : Rep E (view1 H p) v := by
  unfold view1
  split
  · simp only [Rep] at hr ⊢; exact .inl ⟨trivial, trivial, none, hr⟩
  · simp [flat] at hf
  · simp [flat] at hf
  · exact hr

theorem view1_all {c : Cx} {st : PS} {a : Act} {w : World} {ρ : Nat → Nat} (h : Rr c st a w ρ) {p : PV} {v : Value} (hr : Rep (enOf c.A0 w ρ st.H st.it st.nx) p v) :
    Rep (enOf c.A0 w ρ st.H st.it st.nx).all (view1 st.H p) v := by
  have hm := Rep.mono (En.le_all _) _ _ hr
  have hrow : ∀ {id : Nat} {cs : List PV} (hc : st.H id = some cs) (off : Nat), cs.drop off = [] ∨ Row (enOf c.A0 w ρ st.H st.it st.nx).all (ρ id) off (cs.drop off) := by
    intro id cs hc off
    cases cs with
    | nil => simp
    | cons x xs =>
      obtain ⟨vs, e, hb, hr⟩ := h.own.blk id _ hc (by simp)
      refine .inr (Row.of_block (E := (enOf c.A0 w ρ st.H st.it st.nx).all) hb _ off (vs.toList.drop off) (RepL.drop off (RepL.mono (En.le_all _) _ _ hr)) fun i hi => ?_)
      simp
  unfold view1
  split
  · simp only [Rep] at hr ⊢; exact .inl ⟨trivial, trivial, none, hr⟩
  · rename_i id off n cap sz
    cases hc : st.H id with
    | none => exact hm
    | some cs =>
      simp only []
      split
      · rename_i hlen
        simp only [Rep] at hr
        obtain ⟨hid, hcap, rfl | ⟨rfl, rfl, rfl⟩⟩ := hr
        · simp only [Rep]
          refine .inr ⟨ρ id, off, cap, rfl, hcap, ?_⟩
          rcases hrow hc off with hx | hx
          · exact .inl (by simp [hx])
          · exact .inr ⟨fun h => h, Row.take _ hx⟩
        · simp [Rep]
      · exact hm
  · rename_i id off
    cases hc : st.H id with
    | none => exact hm
    | some cs =>
      simp only []
      simp only [Rep] at hr ⊢
      obtain ⟨hid, rfl⟩ := hr
      refine ⟨ρ id, off, rfl, ?_⟩
      rcases hrow hc off with hx | hx
      · exact .inl hx
      · exact .inr ⟨fun h => h, hx⟩
  · exact hm

theorem repL_map {E E' : En} {f : PV → PV} (hf : ∀ p v, Rep E p v → Rep E' (f p) v) : ∀ {ps : List PV} {vs : List Value}, RepL E ps vs → RepL E' (ps.map f) vs
  | [], [], _ => by simp [RepL]
  | p :: ps, v :: vs, h => by
    simp only [RepL, List.map_cons] at h ⊢
    exact ⟨hf p v h.1, repL_map hf h.2⟩
  | [], _ :: _, h => by simp [RepL] at h
  | _ :: _, [], h => by simp [RepL] at h

theorem view_gen {E E' : En} {H : Nat → Option (List PV)} (h0 : E.le E') (h1 : ∀ p v, Rep E p v → Rep E' (view1 H p) v) {p : PV} {v : Value} (hr : Rep E p v) : Rep E' (view H p) v := by
  unfold view
  split
  · simp only [Rep] at hr ⊢
    obtain ⟨vs, rfl, hr⟩ := hr
    exact ⟨vs, rfl, repL_map h1 hr⟩
  · rename_i vs
    simp only [Rep] at hr ⊢
    subst hr
    refine ⟨vs.toList, by simp, ?_⟩
    have := repL_map h1 (RepL.vals (E := E) vs.toList)
    rw [List.map_map] at this; exact this
  · exact h1 p v hr

theorem view_flat {E : En} {H : Nat → Option (List PV)} {p : PV} {v : Value} (hf : flat p = true) (hr : Rep E p v) : Rep E (view H p) v := by
  have key : ∀ {cs : List PV} {vs : List Value}, flatL cs = true → RepL E cs vs → RepL E (cs.map (view1 H)) vs := by
    intro cs
    induction cs with
    | nil => intro vs _ h; cases vs <;> simp_all [RepL]
    | cons c cs ih =>
      intro vs hf h
      cases vs with
      | nil => simp [RepL] at h
      | cons v vs =>
        simp only [RepL, List.map_cons] at h ⊢
        simp only [flatL, Bool.and_eq_true] at hf
        exact ⟨view1_flat hf.1 h.1, ih hf.2 h.2⟩
  unfold view
  split
  · simp only [Rep] at hr ⊢
    simp only [flat] at hf
    obtain ⟨vs, rfl, hr⟩ := hr
    exact ⟨vs, rfl, key hf hr⟩
  · rename_i vs
    simp only [Rep] at hr ⊢
    subst hr
    refine ⟨vs.toList, by simp, ?_⟩
    have := key (cs := vs.toList.map .val) (by
      generalize vs.toList = l
      induction l with
      | nil => rfl
      | cons v l ih => simp [flatL, flat, ih]) (RepL.vals (E := E) vs.toList)
    rw [List.map_map] at this; exact this
  · exact view1_flat hf hr

def CallRes (c : Cx) (a : Act) (K : PV → PS → Prop) (e : Ending) (w' : World) : Prop :=
  ∃ v r st' ρ', e = .returned v ∧ K r st' ∧ Rr c st' a w' ρ' ∧ Rep (enOf c.A0 w' ρ' st'.H st'.it st'.nx) r v

theorem Rr.wf {c : Cx} {st : PS} {a : Act} {w : World} {ρ : Nat → Nat} (h : Rr c st a w ρ) : WF st := by
  intro i hi
  cases hc : st.H i with
  | none => rfl
  | some x => have := h.own.bound i (.inl (by simp [hc])); omega

theorem wf_of {F A0 : Nat → Prop} {w : World} {ρ : Nat → Nat} {H : Nat → Option (List PV)} {it : Nat → Option (ByteArray × Nat)} {nx : Nat} (h : OwnOK F A0 w ρ H it nx) : ∀ i, nx ≤ i → H i = none := by
  intro i hi
  cases hc : H i with
  | none => rfl
  | some x => have := h.bound i (.inl (by simp [hc])); omega

theorem callP_sound {c : Cx} {st : PS} {a : Act} {w : World} {ρ : Nat → Nat} (h : Rr c st a w ρ) {f : FuncId} {ps : List PV} {vs : List Value} {K : PV → PS → Prop}
    (hr : RepL (enOf c.A0 w ρ st.H st.it st.nx) ps vs) (hc : callP P f ps st K) : Calls P f vs.toArray w (CallRes c a K) := by
  obtain ⟨hflat, hp⟩ := hc
  
  let A0 : Nat → Prop := fun b => flatL ps = true ∧ (c.A0 b ∨ OwnB ρ st.H st.it b)
  have hA0 : ∀ b, A0 b → b < w.heap.size := by
    rintro b ⟨_, hb | ⟨i, hl, rfl⟩⟩
    · exact Nat.lt_of_lt_of_le (h.fA b hb) h.grow
    · exact h.own.lt hl
  have hnoB : ∀ (ρ : Nat → Nat) b, ¬ OwnB ρ (fun _ => none) (fun _ => none) b := by
    rintro ρ b ⟨i, ⟨cs, hcs, _⟩ | hi, _⟩
    · simp at hcs
    · simp at hi
  have hown : OwnOK (fun _ => False) A0 w ρ (fun _ => none) (fun _ => none) 0 :=
    ⟨fun i hi => by simp at hi, fun i cs hi => by simp at hi, fun i j hi => by rcases hi with ⟨cs, hcs, _⟩ | hi <;> simp at *,
      fun i cs hi => by simp at hi, fun i s p hi => by simp at hi, fun i hi => by rcases hi with ⟨cs, hcs, _⟩ | hi <;> simp at *⟩
  have hargs : RepL (enOf A0 w ρ (fun _ => none) (fun _ => none) 0) (ps.map (view st.H)) vs := by
    cases hfl : flatL ps with
    | true =>
      have h1 : ∀ {cs : List PV} {us : List Value}, flatL cs = true → RepL (enOf c.A0 w ρ st.H st.it st.nx) cs us → RepL (enOf c.A0 w ρ st.H st.it st.nx) (cs.map (view st.H)) us := by
        intro cs
        induction cs with
        | nil => intro us _ h; cases us <;> simp_all [RepL]
        | cons p cs ih =>
          intro us hf h
          cases us with
          | nil => simp [RepL] at h
          | cons u us =>
            simp only [RepL, List.map_cons] at h ⊢
            simp only [flatL, Bool.and_eq_true] at hf
            exact ⟨view_flat hf.1 h.1, ih hf.2 h.2⟩
      refine RepL.flat (E := enOf c.A0 w ρ st.H st.it st.nx) (E' := enOf A0 w ρ (fun _ => none) (fun _ => none) 0) (fun b o v hA hv => ⟨hv, ?_⟩) _ _ hflat (h1 hfl hr)
      rintro (⟨_, hb⟩ | hb)
      · exact hA hb
      · exact hnoB _ _ hb
    | false =>
      have h1 : RepL (enOf c.A0 w ρ st.H st.it st.nx).all (ps.map (view st.H)) vs :=
        repL_map (fun p v hp => view_gen (En.le_all _) (fun p v hp => view1_all h hp) hp) hr
      refine RepL.flat (E := (enOf c.A0 w ρ st.H st.it st.nx).all) (E' := enOf A0 w ρ (fun _ => none) (fun _ => none) 0) (fun b o v hA hv => ⟨hv, ?_⟩) _ _ hflat h1
      rintro (⟨hb, _⟩ | hb)
      · simp [hfl] at hb
      · exact hnoB _ _ hb
  refine (hp.2 w vs ρ A0 hA0 hown hargs).mono ?_
  rintro e w' ⟨v, r, H', nx', ρ', rfl, ⟨hcl, hK⟩, _, _, hown', hrep, hframe, hsize, hsw⟩
  have hframe' : ∀ b, b < w.heap.size → w'.heap[b]? = w.heap[b]? := fun b hb => hframe b hb (hnoB _ _)
  have hnew : ∀ i, Live H' (fun _ => none) i → w.heap.size ≤ ρ' i := by
    intro i hi
    have := (hown'.out i hi).1
    rcases Nat.lt_or_ge (ρ' i) w.heap.size with hlt | hge
    · exact absurd ⟨hlt, hnoB _ _⟩ this
    · exact hge
  have hitnone : ∀ i, st.nx ≤ i → st.it i = none := by
    intro i hi
    cases hc : st.it i with
    | none => rfl
    | some x => have := h.own.bound i (.inr (by simp [hc])); omega
  let ρ'' : Nat → Nat := fun i => if i < st.nx then ρ i else ρ' (i - st.nx)
  have hlive : ∀ i, Live (joinH st.H st.nx H') st.it i → (i < st.nx ∧ Live st.H st.it i) ∨ (st.nx ≤ i ∧ Live H' (fun _ => none) (i - st.nx)) := by
    intro i hl
    rcases Nat.lt_or_ge i st.nx with hi | hi
    · refine .inl ⟨hi, ?_⟩
      rcases hl with ⟨cs, hcs, hne⟩ | hx
      · simp only [joinH, if_pos hi] at hcs; exact .inl ⟨cs, hcs, hne⟩
      · exact .inr hx
    · refine .inr ⟨hi, ?_⟩
      rcases hl with ⟨cs, hcs, hne⟩ | hx
      · simp only [joinH, if_neg (Nat.not_lt.2 hi), Option.map_eq_some_iff] at hcs
        obtain ⟨ds, hds, rfl⟩ := hcs
        exact .inl ⟨ds, hds, fun e => hne (by simp [e, shiftL])⟩
      · exact absurd (hitnone i hi) hx
  have hOwn : ∀ b, OwnB ρ'' (joinH st.H st.nx H') st.it b → OwnB ρ st.H st.it b ∨ OwnB ρ' H' (fun _ => none) b := by
    rintro b ⟨i, hl, rfl⟩
    rcases hlive i hl with ⟨hi, hl'⟩ | ⟨hi, hl'⟩
    · exact .inl ⟨i, hl', by simp [ρ'', hi]⟩
    · exact .inr ⟨_, hl', by simp [ρ'', Nat.not_lt.2 hi]⟩
  have hle : En.le (enOf c.A0 w ρ st.H st.it st.nx) (enOf c.A0 w' ρ'' (joinH st.H st.nx H') st.it (st.nx + nx')) := by
    refine ⟨fun b o v _ hv => (cell_congr (hframe' b (lt_of_cell hv))).trans hv, fun b o v hA hv hA' => ?_, by simp, fun i hi => by simp only [] at hi; simp [ρ'', hi]⟩
    rcases hA' with h0 | hb
    · exact hA (.inl h0)
    · rcases hOwn b hb with hb | ⟨i, hl, rfl⟩
      · exact hA (.inr hb)
      · have := hnew i hl; have := lt_of_cell hv; simp at this; omega
  have htr : Tr st.nx (!flatL ps) (enOf A0 w' ρ' H' (fun _ => none) nx') (enOf c.A0 w' ρ'' (joinH st.H st.nx H') st.it (st.nx + nx')) := by
    refine ⟨by show nx' + st.nx ≤ st.nx + nx'; omega, fun i _ => by show ρ'' (i + st.nx) = ρ' i; simp only [ρ'']; rw [if_neg (by omega)]; congr 1; omega, fun hcl' b o v hA hv => ⟨hv, ?_⟩⟩
    have hfl : flatL ps = true := by simpa using hcl'
    rintro (h0 | hb)
    · exact hA (.inl ⟨hfl, .inl h0⟩)
    · rcases hOwn b hb with hb | hb
      · exact hA (.inl ⟨hfl, .inr hb⟩)
      · exact hA (.inr hb)
  refine ⟨v, _, _, ρ'', rfl, hK h.wf (wf_of hown'), ?_, Rep.tr htr r v (fun e => (hcl (by simpa using e)).1) hrep⟩
  refine ⟨⟨fun i hi => ?_, fun i ds hd hne => ?_, fun i j hi hj he => ?_, fun i ds hd hne => ?_, fun i s p hi => ?_, fun i hi => ?_⟩, fun t => Rep.mono hle _ _ (h.slots t), h.size, h.defers,
    fun b hb => ?_, Nat.le_trans h.grow hsize, ?_, fun i hi => ?_, h.fF, h.fA, h.sw.trans hsw⟩
  · show i < st.nx + nx'
    rcases Nat.lt_or_ge i st.nx with hlt | hge
    · omega
    · rcases hi with hi | hi
      · have : (joinH st.H st.nx H') i ≠ none := hi
        simp only [joinH, if_neg (Nat.not_lt.2 hge), ne_eq, Option.map_eq_none_iff] at this
        have := hown'.bound (i - st.nx) (.inl this)
        omega
      · exact absurd (hitnone i hge) hi
  · rcases Nat.lt_or_ge i st.nx with hlt | hge
    · have hd : joinH st.H st.nx H' i = some ds := hd
      simp only [joinH, if_pos hlt] at hd
      exact h.own.excl i ds hd hne
    · exact hitnone i hge
  · rcases hlive i hi with ⟨h1, hl1⟩ | ⟨h1, hl1⟩ <;> rcases hlive j hj with ⟨h2, hl2⟩ | ⟨h2, hl2⟩
    · simp only [ρ'', if_pos h1, if_pos h2] at he; exact h.own.inj i j hl1 hl2 he
    · simp only [ρ'', if_pos h1, if_neg (Nat.not_lt.2 h2)] at he
      have := hnew _ hl2; have := h.own.lt hl1; omega
    · simp only [ρ'', if_pos h2, if_neg (Nat.not_lt.2 h1)] at he
      have := hnew _ hl1; have := h.own.lt hl2; omega
    · simp only [ρ'', if_neg (Nat.not_lt.2 h1), if_neg (Nat.not_lt.2 h2)] at he
      have := hown'.inj _ _ hl1 hl2 he; omega
  · have hd : joinH st.H st.nx H' i = some ds := hd
    rcases Nat.lt_or_ge i st.nx with hlt | hge
    · simp only [joinH, if_pos hlt] at hd
      obtain ⟨us, e', hb, hr'⟩ := h.own.blk i ds hd hne
      exact ⟨us, e', by simp only [ρ'', if_pos hlt]; rw [hframe' _ (lt_of_heap hb)]; exact hb, RepL.mono hle _ _ hr'⟩
    · simp only [joinH, if_neg (Nat.not_lt.2 hge), Option.map_eq_some_iff] at hd
      obtain ⟨es, hes, rfl⟩ := hd
      obtain ⟨us, e', hb, hr'⟩ := hown'.blk (i - st.nx) es hes (fun e => hne (by simp [e, shiftL]))
      exact ⟨us, e', by simp only [ρ'', if_neg (Nat.not_lt.2 hge)]; exact hb, RepL.tr htr es _ (fun e => (hcl (by simpa using e)).2 _ _ hes) hr'⟩
  · have hi : st.it i = some (s, p) := hi
    have hb := h.own.itb i s p hi
    have hlt := h.own.bound i (.inr (by simp [hi]))
    simp only [ρ'', if_pos hlt]
    rw [hframe' _ (lt_of_heap hb)]; exact hb
  · rcases hlive i hi with ⟨h1, hl1⟩ | ⟨h1, hl1⟩
    · simp only [ρ'', if_pos h1]; exact h.own.out i hl1
    · simp only [ρ'', if_neg (Nat.not_lt.2 h1)]
      have := hnew _ hl1
      exact ⟨fun hF => by have := h.fF _ hF; have := h.grow; omega, fun hA => by have := h.fA _ hA; have := h.grow; omega⟩
  · rw [hframe' b (Nat.lt_of_lt_of_le (h.fF b hb) h.grow)]; exact h.frame b hb
  · show c.k ≤ st.nx + nx'
    have := h.ids; omega
  · have := h.ids
    simp only [ρ'', if_pos (Nat.lt_of_lt_of_le hi this)]; exact h.ρk i hi

theorem callM_sound {c : Cx} {st : PS} {a : Act} {w : World} {ρ : Nat → Nat} (h : Rr c st a w ρ) {f : FuncId} {ps : List PV} {vs : List Value} {K : PV → PS → Prop}
    (hr : RepL (enOf c.A0 w ρ st.H st.it st.nx) ps vs) (hc : callM P f ps st K) : Calls P f vs.toArray w (CallRes c a K) := by
  let I : Nat → Prop := fun b => ∃ i, st.it i ≠ none ∧ ρ i = b
  let A0 : Nat → Prop := fun b => c.A0 b ∨ I b
  have hsplit : ∀ b, OwnB ρ st.H st.it b ↔ (OwnB ρ st.H (fun _ => none) b ∨ I b) := by
    intro b
    constructor
    · rintro ⟨i, hl | hi, rfl⟩
      · exact .inl ⟨i, .inl hl, rfl⟩
      · exact .inr ⟨i, hi, rfl⟩
    · rintro (⟨i, hl | hi, rfl⟩ | ⟨i, hi, rfl⟩)
      · exact ⟨i, .inl hl, rfl⟩
      · simp at hi
      · exact ⟨i, .inr hi, rfl⟩
  have hAeq : ∀ b, (A0 b ∨ OwnB ρ st.H (fun _ => none) b) ↔ (c.A0 b ∨ OwnB ρ st.H st.it b) := by
    intro b
    rw [hsplit b]
    constructor
    · rintro ((h1 | h1) | h1)
      · exact .inl h1
      · exact .inr (.inr h1)
      · exact .inr (.inl h1)
    · rintro (h1 | h1 | h1)
      · exact .inl (.inl h1)
      · exact .inr h1
      · exact .inl (.inr h1)
  have hle0 : En.le (enOf c.A0 w ρ st.H st.it st.nx) (enOf A0 w ρ st.H (fun _ => none) st.nx) :=
    ⟨fun _ _ _ _ hv => hv, fun b _ _ hA _ hA' => hA ((hAeq b).1 hA'), Nat.le_refl _, fun _ _ => rfl⟩
  have hA0 : ∀ b, A0 b → b < w.heap.size := by
    rintro b (hb | ⟨i, hi, rfl⟩)
    · exact Nat.lt_of_lt_of_le (h.fA b hb) h.grow
    · exact h.own.lt (.inr hi)
  have hLive : ∀ i, Live st.H (fun _ => none) i → Live st.H st.it i := by
    rintro i (hl | hi)
    · exact .inl hl
    · simp at hi
  have hown : OwnOK (fun _ => False) A0 w ρ st.H (fun _ => none) st.nx := by
    refine ⟨fun i hi => h.own.bound i (by rcases hi with hi | hi; exact .inl hi; simp at hi), fun i cs hd hne => rfl, fun i j hi hj he => h.own.inj i j (hLive i hi) (hLive j hj) he,
      fun i cs hd hne => ?_, fun i s p hi => by simp at hi, fun i hi => ⟨fun h => h, ?_⟩⟩
    · obtain ⟨us, e', hb, hr'⟩ := h.own.blk i cs hd hne
      exact ⟨us, e', hb, RepL.mono hle0 _ _ hr'⟩
    · rintro (h0 | ⟨j, hj, he⟩)
      · exact (h.own.out i (hLive i hi)).2 h0
      · have := h.own.inj j i (.inr hj) (hLive i hi) he
        subst this
        rcases hi with ⟨cs, hcs, hne⟩ | hi
        · exact hj (h.own.excl _ cs hcs hne)
        · simp at hi
  refine (hc.2 w vs ρ A0 hA0 hown (RepL.mono hle0 _ _ hr)).mono ?_
  rintro e w' ⟨v, r, H', nx', ρ', rfl, hK, hnx, hρ, hown', hrep, hframe, hsize, hsw⟩
  have hitlt : ∀ i, st.it i ≠ none → i < st.nx := fun i hi => h.own.bound i (.inr hi)
  
  have hnew : ∀ i, Live H' (fun _ => none) i → w.heap.size ≤ ρ' i ∨ OwnB ρ st.H (fun _ => none) (ρ' i) := by
    intro i hi
    have := (hown'.out i hi).1
    rcases Nat.lt_or_ge (ρ' i) w.heap.size with hlt | hge
    · exact .inr (Classical.byContradiction fun hn => this ⟨hlt, hn⟩)
    · exact .inl hge
  have hcase : ∀ i, Live H' st.it i → Live H' (fun _ => none) i ∨ (st.it i ≠ none ∧ ρ' i = ρ i) := by
    rintro i (hl | hi)
    · exact .inl (.inl hl)
    · exact .inr ⟨hi, hρ i (hitlt i hi)⟩
  have hA' : ∀ b, (c.A0 b ∨ OwnB ρ' H' st.it b) ↔ (A0 b ∨ OwnB ρ' H' (fun _ => none) b) := by
    intro b
    constructor
    · rintro (h0 | ⟨i, hl, rfl⟩)
      · exact .inl (.inl h0)
      · rcases hcase i hl with hl' | ⟨hi, he⟩
        · exact .inr ⟨i, hl', rfl⟩
        · exact .inl (.inr ⟨i, hi, he.symm⟩)
    · rintro ((h0 | ⟨i, hi, rfl⟩) | ⟨i, hl | hi, rfl⟩)
      · exact .inl h0
      · exact .inr ⟨i, .inr hi, hρ i (hitlt i hi)⟩
      · exact .inr ⟨i, .inl hl, rfl⟩
      · simp at hi
  have hle1 : En.le (enOf A0 w' ρ' H' (fun _ => none) nx') (enOf c.A0 w' ρ' H' st.it nx') :=
    ⟨fun _ _ _ _ hv => hv, fun b _ _ hA _ hA2 => hA ((hA' b).1 hA2), Nat.le_refl _, fun _ _ => rfl⟩
  have hle : En.le (enOf c.A0 w ρ st.H st.it st.nx) (enOf c.A0 w' ρ' H' st.it nx') := by
    refine ⟨fun b o v hA hv => ?_, fun b o v hA hv hA2 => ?_, hnx, hρ⟩
    · exact (cell_congr (hframe b (lt_of_cell hv) fun hb => hA (.inr ((hsplit b).2 (.inl hb))))).trans hv
    · rcases hA2 with h0 | ⟨i, hl, rfl⟩
      · exact hA (.inl h0)
      · rcases hcase i hl with hl' | ⟨hi, he⟩
        · rcases hnew i hl' with h1 | h1
          · have := lt_of_cell hv; simp at this; omega
          · exact hA (.inr ((hsplit _).2 (.inl h1)))
        · rw [he] at hA; exact hA (.inr ((hsplit _).2 (.inr ⟨i, hi, rfl⟩)))
  refine ⟨v, r, _, ρ', rfl, hK h.wf (wf_of hown') hnx, ?_, Rep.mono hle1 _ _ hrep⟩
  refine ⟨⟨fun i hi => ?_, fun i ds hd hne => ?_, fun i j hi hj he => ?_, fun i ds hd hne => ?_, fun i s p hi => ?_, fun i hi => ?_⟩, fun t => Rep.mono hle _ _ (h.slots t), h.size, h.defers,
    fun b hb => ?_, Nat.le_trans h.grow hsize, Nat.le_trans h.ids hnx, fun i hi => by rw [hρ i (Nat.lt_of_lt_of_le hi h.ids)]; exact h.ρk i hi, h.fF, h.fA, h.sw.trans hsw⟩
  · rcases hi with hi | hi
    · exact hown'.bound i (.inl hi)
    · exact Nat.lt_of_lt_of_le (hitlt i hi) hnx
  · have hd : H' i = some ds := hd
    cases hit : st.it i with
    | none => rfl
    | some x =>
      have hi : st.it i ≠ none := by simp [hit]
      have h1 := (hown'.out i (.inl ⟨ds, hd, hne⟩)).2
      exact absurd (.inr ⟨i, hi, (hρ i (hitlt i hi)).symm⟩) h1
  · rcases hcase i hi with h1 | ⟨h1, e1⟩ <;> rcases hcase j hj with h2 | ⟨h2, e2⟩
    · exact hown'.inj i j h1 h2 he
    · exact absurd (.inr ⟨j, h2, by rw [← e2]; exact he.symm⟩) (hown'.out i h1).2
    · exact absurd (.inr ⟨i, h1, by rw [← e1]; exact he⟩) (hown'.out j h2).2
    · rw [e1, e2] at he; exact h.own.inj i j (.inr h1) (.inr h2) he
  · have hd : H' i = some ds := hd
    obtain ⟨us, e', hb, hr'⟩ := hown'.blk i ds hd hne
    exact ⟨us, e', hb, RepL.mono hle1 _ _ hr'⟩
  · have hi : st.it i = some (s, p) := hi
    have hne : st.it i ≠ none := by simp [hi]
    have hb := h.own.itb i s p hi
    rw [hρ i (hitlt i hne), hframe _ (lt_of_heap hb) ?_]
    · exact hb
    · rintro ⟨j, hl, he⟩
      have := h.own.inj j i (hLive j hl) (.inr hne) he
      subst this
      rcases hl with ⟨cs, hcs, hn⟩ | hl
      · exact hne (h.own.excl _ cs hcs hn)
      · simp at hl
  · rcases hcase i hi with h1 | ⟨h1, e1⟩
    · refine ⟨fun hF => ?_, fun hA => (hown'.out i h1).2 (.inl hA)⟩
      rcases hnew i h1 with h2 | ⟨j, hl, he⟩
      · have := h.fF _ hF; have := h.grow; omega
      · rw [← he] at hF; exact (h.own.out j (hLive j hl)).1 hF
    · rw [e1]; exact h.own.out i (.inr h1)
  · rw [hframe b (Nat.lt_of_lt_of_le (h.fF b hb) h.grow) ?_]
    · exact h.frame b hb
    · rintro ⟨j, hl, he⟩
      rw [← he] at hb; exact (h.own.out j (hLive j hl)).1 hb

end Go.Proofs.Ytfjdfnlkobeehaa
end
