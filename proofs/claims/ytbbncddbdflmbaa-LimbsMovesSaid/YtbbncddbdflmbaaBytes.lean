/- Lists of bytes, and decimal digits. Program independent. -/
import Derived.Test.YtbbncddbdflmbaaData
set_option linter.unusedVariables false
set_option linter.unusedSimpArgs false
namespace Go.Proofs.Ytbbncddbdflmbaa

/-- A byte. -/
def Bt (x : Nat) : PV := .val (.int .u8 x)
theorem Bt_def (x : Nat) : Bt x = .val (.int .u8 x) := rfl
theorem flatL_B (xs : List Nat) : flatL (xs.map Bt) = true := by
  induction xs with
  | nil => rfl
  | cons x xs ih => simp [flatL, flat, Bt, ih]
theorem oneP_B (xs : List Nat) : (xs.map Bt).all oneP = true := by
  induction xs with
  | nil => rfl
  | cons x xs ih => simp [oneP, Bt, Value.oneCell', ih]
theorem repl_B (n : Nat) : repl n [PV.val (.int .u8 0)] = (List.replicate n 0).map Bt := by rw [repl_one]; simp [Bt]
theorem get_B {xs : List Nat} {i : Nat} (l : List PV) (h : i < xs.length) : (xs.map Bt ++ l)[i]? = some (.val (.int .u8 (xs.getD i 0 : Nat))) := by
  rw [List.getElem?_append_left (by simpa using h)]
  simp [h, Bt]
theorem get_B' {xs : List Nat} {i : Nat} (h : i < xs.length) : (xs.map Bt)[i]? = some (.val (.int .u8 (xs.getD i 0 : Nat))) := by
  simp [h, Bt]
theorem set_B' {xs : List Nat} {i x : Nat} (h : i < xs.length) : spl (xs.map Bt) i [.val (.int .u8 (x : Nat))] = (xs.set i x).map Bt := by
  unfold spl
  simp only [List.length_singleton]
  rw [List.set_eq_take_append_cons_drop, if_pos h]
  simp [Bt]
theorem app_B (zs : List Nat) (c : Nat) : zs.map Bt ++ [PV.val (.int .u8 (c : Nat))] = (zs ++ [c]).map Bt := by simp [Bt]
theorem bytesP_B (ys : List Nat) : bytesP (ys.map Bt) = some (ys.map UInt8.ofNat) := by
  induction ys with
  | nil => rfl
  | cons y ys ih =>
    simp only [List.map_cons, Bt, bytesP] at ih ⊢
    simp [ih]
theorem convP_ref {P : Program} {H : Nat → Option (List PV)} {s d : TypeId} {id off n cap z : Nat} : convP P H s d (.ref id off n cap z) = if strT P d = true ∧ (elemT P s).bind (kindT P) = some .u8 then
    (H id).bind fun cs => if off + n ≤ cs.length then (bytesP ((cs.drop off).take n)).map fun l => .val (.string ⟨l.toArray⟩) else none else none := by
  simp only [convP]; cases H id <;> rfl
attribute [go_sem] flatL_B oneP_B get_B get_B' set_B' convP_ref Bt_def bytesP_B
attribute [go_sem low] repl_B

/-- What a list of limbs stands for, read from its cells. -/
def unU : PV → Nat
  | .val (.int _ z) => z.toNat
  | _ => 0
theorem unU_U (xs : List Nat) : (xs.map U).map unU = xs := by
  induction xs with
  | nil => rfl
  | cons x xs ih => simpa [U, unU] using ih

/-- A natural's decimal digits, the lowest first. -/
def digs (n : Nat) : List Nat := if h : n = 0 then [] else n % 10 :: digs (n / 10)
termination_by n
decreasing_by omega
theorem digs_zero : digs 0 = [] := by rw [digs]; simp
theorem digs_pos {n : Nat} (h : n ≠ 0) : digs n = n % 10 :: digs (n / 10) := by rw [digs]; simp [h]
theorem digs_len {n k : Nat} (h : n < 10 ^ k) : (digs n).length ≤ k := by
  induction k generalizing n with
  | zero => have : n = 0 := by simpa using h
            subst this; rw [digs_zero]; exact Nat.le_refl _
  | succ k ih =>
    by_cases h0 : n = 0
    · subst h0; rw [digs_zero]; exact Nat.zero_le _
    · rw [digs_pos h0, List.length_cons]
      have := ih (n := n / 10) (by rw [Nat.pow_succ] at h; omega)
      omega
theorem digs_lt (n : Nat) : ∀ x ∈ digs n, x < 10 := by
  induction n using Nat.strongRecOn with
  | _ n ih =>
    by_cases h : n = 0
    · subst h; rw [digs_zero]; intro x hx; simp at hx
    · rw [digs_pos h]
      intro x hx
      rcases List.mem_cons.1 hx with rfl | hx
      · omega
      · exact ih _ (by omega) x hx
theorem digs_limbs {n k : Nat} (h : n < 4294967296 ^ k) : (digs n).length ≤ 10 * k := by
  refine digs_len (Nat.lt_of_lt_of_le h ?_)
  rw [Nat.pow_mul]
  exact Nat.pow_le_pow_left (by decide) k

/-- A digit's byte. -/
def dig (x : Nat) : Nat := 48 + x
/-- A natural's text. -/
def txt (n : Nat) : ByteArray := if n = 0 then ⟨#[48]⟩ else ⟨(((digs n).map dig).reverse.map UInt8.ofNat).toArray⟩
theorem txt_pos {n : Nat} (h : n ≠ 0) : txt n = ⟨(((digs n).map dig).reverse.map UInt8.ofNat).toArray⟩ := if_neg h
theorem rev_step {bs zs : List Nat} {j : Nat} (hl : zs.length = bs.length) (hj : j < bs.length) (h : zs.drop (bs.length - j) = (bs.take j).reverse) :
    (zs.set (bs.length - 1 - j) (bs.getD j 0)).drop (bs.length - (j + 1)) = (bs.take (j + 1)).reverse := by
  have e : bs.length - (j + 1) = bs.length - 1 - j := by omega
  rw [e, take_getD bs hj, List.reverse_append, List.reverse_singleton, List.singleton_append, ← h, drop_getD _ (by simp; omega), List.getD_eq_getElem?_getD, List.getElem?_set_self (by omega), List.drop_set_of_lt (by omega)]
  rw [show bs.length - 1 - j + 1 = bs.length - j by omega]
  rfl
end Go.Proofs.Ytbbncddbdflmbaa
