/- Digits as the abstract machine has them. Program independent. -/
import Derived.Test.YtfjdfnlkobeehaaRefLim
import Derived.Test.YtfjdfnlkobeehaaLimbsB
set_option linter.unusedVariables false
set_option linter.unusedSimpArgs false
namespace Go.Proofs.Ytfjdfnlkobeehaa.Ref

def I (x : Nat) : PV := .val (.int .i64 x)
theorem I_def (x : Nat) : I x = .val (.int .i64 x) := rfl
def SI (xs : List Nat) : PV := .sl xs.length (xs.map I)
theorem SI_def (xs : List Nat) : SI xs = .sl xs.length (xs.map I) := rfl
theorem flatL_I (xs : List Nat) : flatL (xs.map I) = true := by
  induction xs with
  | nil => rfl
  | cons x xs ih => simp [flatL, flat, I, ih]
theorem flat_SI (xs : List Nat) : flat (SI xs) = true := flatL_I xs
theorem oneP_I (xs : List Nat) : (xs.map I).all oneP = true := by
  induction xs with
  | nil => rfl
  | cons x xs ih => simp [oneP, I, Value.oneCell', ih]
theorem flatI_take (xs : List Nat) (n : Nat) : flatL ((xs.map I).take n) = true := flatL_take n (flatL_I xs)
theorem flatI_drop (xs : List Nat) (n : Nat) : flatL ((xs.map I).drop n) = true := flatL_drop n (flatL_I xs)
theorem flatI_sub (xs : List Nat) (n m : Nat) : flatL (((xs.map I).drop n).take m) = true := flatL_take m (flatI_drop xs n)
theorem repl_I (n : Nat) : repl n [PV.val (.int .i64 0)] = (List.replicate n 0).map I := by rw [repl_one]; simp [I]
theorem replI_val (n : Nat) : (List.replicate n 0).map I = ([] : List Nat).map I ++ (List.replicate n (Value.int .i64 0)).map .val := by simp [I]
theorem get_I {xs : List Nat} {i : Nat} (l : List PV) (h : i < xs.length) : (xs.map I ++ l)[i]? = some (.val (.int .i64 (xs.getD i 0 : Nat))) := by
  rw [List.getElem?_append_left (by simpa using h)]
  simp [h, I]
theorem head_I {xs : List Nat} (h : 0 < xs.length) : (xs.map I).head? = some (.val (.int .i64 (xs.getD 0 0 : Nat))) := by
  cases xs with
  | nil => simp at h
  | cons x l => rfl
theorem set_I {xs : List Nat} {i x : Nat} (l : List PV) (h : i < xs.length) : spl (xs.map I ++ l) i [.val (.int .i64 (x : Nat))] = (xs.set i x).map I ++ l := by
  unfold spl
  simp only [List.length_singleton]
  rw [List.take_append_of_le_length (by simpa using Nat.le_of_lt h), List.drop_append_of_le_length (by simp; omega), List.set_eq_take_append_cons_drop, if_pos h]
  simp [I]
theorem set_I' {xs : List Nat} {i x : Nat} (h : i < xs.length) : spl (xs.map I) i [.val (.int .i64 (x : Nat))] = (xs.set i x).map I := by
  have := set_I (x := x) [] h
  simpa using this
theorem own_split {zs : List Nat} (h : Lm zs) (rest : List Value) : zs.map I ++ rest.map .val = (D (V zs)).map I ++ (List.replicate (zs.length - (D (V zs)).length) (Value.int .i64 0) ++ rest).map .val := by
  have hl := D_len_V h
  have e : zs = D (V zs) ++ List.replicate (zs.length - (D (V zs)).length) 0 := by
    refine V_inj h (Lm_append.2 ⟨Lm_D _, Lm_repl _⟩) (by simp; omega) ?_
    rw [V_append, V_repl, V_D]; simp
  conv => lhs; rw [e]
  simp [I]
theorem own_split' {zs : List Nat} (h : Lm zs) : zs.map I = (D (V zs)).map I ++ (List.replicate (zs.length - (D (V zs)).length) (Value.int .i64 0)).map .val := by
  have := own_split h []
  simpa using this
theorem replI_split {n m : Nat} (h : n ≤ m) : (List.replicate m 0).map I = (List.replicate n 0).map I ++ (List.replicate (m - n) (Value.int .i64 0)).map .val := by
  obtain ⟨d, rfl⟩ := Nat.le.dest h
  rw [← List.replicate_append_replicate, List.map_append, Nat.add_sub_cancel_left]; simp [I]
theorem app_I (zs : List Nat) (c : Nat) : zs.map I ++ [PV.val (.int .i64 (c : Nat))] = (zs ++ [c]).map I := by simp [I]
theorem closedL_I (xs : List Nat) : closedL (xs.map I) = true := by
  induction xs with
  | nil => rfl
  | cons x xs ih => simp [closedL, closed, I, ih]
theorem take_Il (xs : List Nat) (l : List PV) : List.take xs.length (xs.map I ++ l) = xs.map I := by
  rw [List.take_append_of_le_length (by simp)]; exact List.take_of_length_le (by simp)
theorem frzL_I (D : Nat → Bool) (H : Nat → Option (List PV)) (d : Nat) (xs : List Nat) : (xs.map I).mapM (Ytfjdfnlkobeehaa.frz D H d) = some (xs.map I) := frzL_flat D H d (flatL_I xs)
theorem unU_I (xs : List Nat) : (xs.map I).map unU = xs := by
  induction xs with
  | nil => rfl
  | cons x xs ih => simpa [I, unU] using ih

attribute [go_sem] get_I set_I set_I' head_I flatI_take flatI_drop flatI_sub I_def SI_def flatL_I oneP_I frzL_I take_Il
attribute [go_sem low] repl_I
end Go.Proofs.Ytfjdfnlkobeehaa.Ref
