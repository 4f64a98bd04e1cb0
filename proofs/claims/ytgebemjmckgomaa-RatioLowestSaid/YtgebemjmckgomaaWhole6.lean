/- The program's whole: sums of any numbers. -/
import Derived.Test.YtgebemjmckgomaaWholeA
set_option maxRecDepth 100000
set_option linter.unusedVariables false
set_option linter.unusedSimpArgs false
namespace Go.Proofs.Ytgebemjmckgomaa

/-- Numbers one behind the other, as they are read. -/
def SWc (l : List (Bool × List Nat)) : List PV := l.flatMap fun p => [.val (.bool p.1), SU p.2]
def SW (l : List (Bool × List Nat)) : PV := .sl l.length (SWc l)
theorem SW_def (l : List (Bool × List Nat)) : SW l = .sl l.length (SWc l) := rfl
theorem take_2c {α : Type} (a b : α) (l : List α) : (a :: b :: l).take 2 = [a, b] := rfl
theorem spl_60 {α : Type} (a b c d e f x y : α) : spl [a, b, c, d, e, f] 0 [x, y] = [x, y, c, d, e, f] := rfl
theorem spl_62 {α : Type} (a b c d e f x y : α) : spl [a, b, c, d, e, f] 2 [x, y] = [a, b, x, y, e, f] := rfl
theorem spl_64 {α : Type} (a b c d e f x y : α) : spl [a, b, c, d, e, f] 4 [x, y] = [a, b, c, d, x, y] := rfl
theorem SWc_nil : SWc [] = [] := rfl
attribute [go_sem] SW_def take_2c spl_60 spl_62 spl_64 SWc_nil
theorem SWc_len (l : List (Bool × List Nat)) : (SWc l).length = 2 * l.length := by
  induction l with
  | nil => rfl
  | cons p l ih => simp only [SWc, List.flatMap_cons, List.length_append, List.length_cons, List.length_nil] at *; omega
theorem SWc_cons (p : Bool × List Nat) (l : List (Bool × List Nat)) : SWc (p :: l) = .val (.bool p.1) :: SU p.2 :: SWc l := rfl
theorem SWc_flat (l : List (Bool × List Nat)) : flatL (SWc l) = true := by
  induction l with
  | nil => rfl
  | cons p l ih =>
    have h1 : flat (SU p.2) = true := flat_SU _
    have h2 : flat (PV.val (.bool p.1)) = true := rfl
    rw [SWc_cons]
    simp only [flatL, h1, h2, ih, Bool.and_self]
theorem SWc_drop : ∀ (l : List (Bool × List Nat)) (i : Nat), (SWc l).drop (i * 2) = SWc (l.drop i)
  | l, 0 => by simp
  | [], i + 1 => by simp [SWc]
  | p :: l, i + 1 => by
    rw [SWc_cons, show (i + 1) * 2 = i * 2 + 1 + 1 by omega, List.drop_succ_cons, List.drop_succ_cons, List.drop_succ_cons, SWc_drop l i]
theorem SWc_at {l : List (Bool × List Nat)} {i : Nat} (h : i < l.length) : (SWc l).drop (i * 2) = .val (.bool l[i].1) :: SU l[i].2 :: SWc (l.drop (i + 1)) := by
  rw [SWc_drop, List.drop_eq_getElem_cons h, SWc_cons]
/-- What they say together. -/
def sumW : List (Bool × List Nat) → Int
  | [] => 0
  | p :: l => WV p.1 p.2 + sumW l
theorem sumW_app (l m : List (Bool × List Nat)) : sumW (l ++ m) = sumW l + sumW m := by
  induction l with
  | nil => simp [sumW]
  | cons p l ih => simp only [List.cons_append, sumW, ih]; omega
theorem sumW_take {l : List (Bool × List Nat)} {i : Nat} (h : i < l.length) : sumW (l.take (i + 1)) = sumW (l.take i) + WV l[i].1 l[i].2 := by
  rw [List.take_succ_eq_append_getElem h, sumW_app]
  simp [sumW]
theorem sumW_Z {l : List (Bool × List Nat)} {K : Nat} (h : ∀ p ∈ l, Z K (WV p.1 p.2)) : ∀ i, i ≤ l.length → Z (K + i) (sumW (l.take i))
  | 0, _ => by simp only [List.take_zero, sumW]; unfold Z; exact Nat.pos_of_ne_zero (by simp)
  | i + 1, hi => by
    rw [sumW_take (by omega)]
    have h1 := sumW_Z h i (by omega)
    exact Z.add h1 ((h _ (List.getElem_mem _)).mono (Nat.le_add_right K i))

-- left out: whole.Sum
end Go.Proofs.Ytgebemjmckgomaa
