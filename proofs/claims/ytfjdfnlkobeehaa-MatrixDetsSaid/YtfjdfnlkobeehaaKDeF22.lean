/- Part 22 of the way to the statement: the walk and what it needs. -/
import Derived.Test.YtfjdfnlkobeehaaKDeF2
import Derived.Test.YtfjdfnlkobeehaaKDeF21
section
set_option linter.unusedVariables false
set_option linter.unusedSimpArgs false
namespace Go.Proofs.Ytfjdfnlkobeehaa

attribute [go_sem ↓] reduceIte
attribute [go_sem] eq_self
attribute [go_sem] reduceIte Nat.reduceEqDiff Nat.reduceAdd Nat.reduceMul Nat.reduceSub Nat.reduceLT Nat.reduceLeDiff Int.reduceToNat Int.reduceLE Int.reduceLT Int.reduceAdd Int.reduceMul Int.reduceSub Nat.sub_zero Int.reducePow Nat.reducePow Int.reduceNeg Int.reduceEq Int.reduceNe


def U (x : Nat) : PV := .val (.int .u32 x)
theorem U_def (x : Nat) : U x = .val (.int .u32 x) := rfl

def SU (xs : List Nat) : PV := .sl xs.length (xs.map U)
theorem SU_def (xs : List Nat) : SU xs = .sl xs.length (xs.map U) := rfl
theorem flatL_U (xs : List Nat) : flatL (xs.map U) = true := by
  induction xs with
  | nil => rfl
  | cons x xs ih => simp [flatL, flat, U, ih]
theorem flat_SU (xs : List Nat) : flat (SU xs) = true := flatL_U xs
theorem oneP_U (xs : List Nat) : (xs.map U).all oneP = true := by
  induction xs with
  | nil => rfl
  | cons x xs ih => simp [oneP, U, Value.oneCell', ih]
theorem flatL_take {l : List PV} (n : Nat) (h : flatL l = true) : flatL (l.take n) = true := by
  induction l generalizing n with
  | nil => simp [flatL]
  | cons x l ih => cases n with
    | zero => rfl
    | succ n => simp only [flatL, Bool.and_eq_true] at h; simp only [List.take_succ_cons, flatL, Bool.and_eq_true]; exact ⟨h.1, ih n h.2⟩
theorem flatL_drop {l : List PV} (n : Nat) (h : flatL l = true) : flatL (l.drop n) = true := by
  induction l generalizing n with
  | nil => simp [flatL]
  | cons x l ih => cases n with
    | zero => exact h
    | succ n => simp only [flatL, Bool.and_eq_true] at h; simpa using ih n h.2
theorem flatU_take (xs : List Nat) (n : Nat) : flatL ((xs.map U).take n) = true := flatL_take n (flatL_U xs)
theorem flatU_drop (xs : List Nat) (n : Nat) : flatL ((xs.map U).drop n) = true := flatL_drop n (flatL_U xs)
theorem flatU_sub (xs : List Nat) (n m : Nat) : flatL (((xs.map U).drop n).take m) = true := flatL_take m (flatU_drop xs n)
theorem repl_one {α : Type} (x : α) (n : Nat) : repl n [x] = List.replicate n x := by simp [repl]
theorem repl_U (n : Nat) : repl n [PV.val (.int .u32 0)] = (List.replicate n 0).map U := by rw [repl_one]; simp [U]
theorem replU_val (n : Nat) : (List.replicate n 0).map U = ([] : List Nat).map U ++ (List.replicate n (Value.int .u32 0)).map .val := by simp [U]
theorem get_U {xs : List Nat} {i : Nat} (l : List PV) (h : i < xs.length) : (xs.map U ++ l)[i]? = some (.val (.int .u32 (xs.getD i 0 : Nat))) := by
  rw [List.getElem?_append_left (by simpa using h)]
  simp [h, U]
theorem head_U {xs : List Nat} (h : 0 < xs.length) : (xs.map U).head? = some (.val (.int .u32 (xs.getD 0 0 : Nat))) := by
  cases xs with
  | nil => simp at h
  | cons x l => rfl
theorem set_U {xs : List Nat} {i x : Nat} (l : List PV) (h : i < xs.length) : spl (xs.map U ++ l) i [.val (.int .u32 (x : Nat))] = (xs.set i x).map U ++ l := by
  unfold spl
  simp only [List.length_singleton]
  rw [List.take_append_of_le_length (by simpa using Nat.le_of_lt h), List.drop_append_of_le_length (by simp; omega), List.set_eq_take_append_cons_drop, if_pos h]
  simp [U]
theorem set_U' {xs : List Nat} {i x : Nat} (h : i < xs.length) : spl (xs.map U) i [.val (.int .u32 (x : Nat))] = (xs.set i x).map U := by
  have := set_U (x := x) [] h
  simpa using this
theorem own_split {zs : List Nat} (h : Lm zs) (rest : List Value) : zs.map U ++ rest.map .val = (D (V zs)).map U ++ (List.replicate (zs.length - (D (V zs)).length) (Value.int .u32 0) ++ rest).map .val := by
  have hl := D_len_V h
  have e : zs = D (V zs) ++ List.replicate (zs.length - (D (V zs)).length) 0 := by
    refine V_inj h (Lm_append.2 ⟨Lm_D _, Lm_repl _⟩) (by simp; omega) ?_
    rw [V_append, V_repl, V_D]; simp
  conv => lhs; rw [e]
  simp [U]
theorem own_split' {zs : List Nat} (h : Lm zs) : zs.map U = (D (V zs)).map U ++ (List.replicate (zs.length - (D (V zs)).length) (Value.int .u32 0)).map .val := by
  have := own_split h []
  simpa using this
theorem sub_step {u v b : Nat} (hu : u < 4294967296) (hv : v < 4294967296) (hb : b ≤ 1) : ∃ z b' : Nat, z < 4294967296 ∧ b' ≤ 1 ∧ (((u : Int) - b) % 18446744073709551616 - v) % 18446744073709551616 % 4294967296 = z ∧
    (((u : Int) - b) % 18446744073709551616 - v) % 18446744073709551616 / 9223372036854775808 = b' ∧ z + v + b = u + 4294967296 * b' := by
  by_cases h : v + b ≤ u
  · exact ⟨u - v - b, 0, by omega, by omega, by omega, by omega, by omega⟩
  · exact ⟨u + 4294967296 - v - b, 1, by omega, by omega, by omega, by omega, by omega⟩
theorem app_U (zs : List Nat) (c : Nat) : zs.map U ++ [PV.val (.int .u32 (c : Nat))] = (zs ++ [c]).map U := by simp [U]
theorem repl_1 {α : Type} (l : List α) : repl 1 l = l := by simp [repl]
theorem repl_2 {α : Type} (l : List α) : repl 2 l = l ++ l := by simp [repl, List.replicate_succ]
theorem repl_3 {α : Type} (l : List α) : repl 3 l = l ++ (l ++ l) := by simp [repl, List.replicate_succ]
section
variable {α : Type} (a b c x : α)
theorem spl_10 : spl [a] 0 [x] = [x] := rfl
theorem spl_20 : spl [a, b] 0 [x] = [x, b] := rfl
theorem spl_21 : spl [a, b] 1 [x] = [a, x] := rfl
theorem spl_30 : spl [a, b, c] 0 [x] = [x, b, c] := rfl
theorem spl_31 : spl [a, b, c] 1 [x] = [a, x, c] := rfl
theorem spl_32 : spl [a, b, c] 2 [x] = [a, b, x] := rfl
end
theorem cellsP_int (k : IntKind) (z : Int) : cellsP (.val (.int k z)) = [.val (.int k z)] := rfl
theorem cellsP_bool (b : Bool) : cellsP (.val (.bool b)) = [.val (.bool b)] := rfl
theorem cellsP_str (s : ByteArray) : cellsP (.val (.string s)) = [.val (.string s)] := rfl
theorem cellsP_nil : cellsP (.val (.slice none 0 0)) = [.val (.slice none 0 0)] := rfl
theorem cellsP_ref (id off n cap sz : Nat) : cellsP (.ref id off n cap sz) = [.ref id off n cap sz] := rfl
theorem cellsP_sl (n : Nat) (cs : List PV) : cellsP (.sl n cs) = [.sl n cs] := rfl
theorem cellsP_ptr (id off : Nat) : cellsP (.ptr id off) = [.ptr id off] := rfl
theorem cellsP_agg (cs : List PV) : cellsP (.agg cs) = cs := rfl
theorem isAny_val (v : Value) : isAny (.val v) = false := rfl
theorem isAny_ref (id off n cap sz : Nat) : isAny (.ref id off n cap sz) = false := rfl
theorem isAny_sl (n : Nat) (cs : List PV) : isAny (.sl n cs) = false := rfl
theorem isAny_ptr (id off : Nat) : isAny (.ptr id off) = false := rfl
theorem isAny_agg (cs : List PV) : isAny (.agg cs) = false := rfl
theorem allP_nil : ([] : List PV).all oneP = true := rfl
theorem allP_cons (c : PV) (cs : List PV) : (c :: cs).all oneP = (oneP c && cs.all oneP) := rfl
theorem oneP_int (k : IntKind) (z : Int) : oneP (.val (.int k z)) = true := rfl
theorem oneP_bool (b : Bool) : oneP (.val (.bool b)) = true := rfl
theorem oneP_str (s : ByteArray) : oneP (.val (.string s)) = true := rfl
theorem oneP_nil : oneP (.val (.slice none 0 0)) = true := rfl
theorem oneP_ref (id off n cap sz : Nat) : oneP (.ref id off n cap sz) = true := rfl
theorem oneP_sl (n : Nat) (cs : List PV) : oneP (.sl n cs) = true := rfl
theorem oneP_ptr (id off : Nat) : oneP (.ptr id off) = true := rfl
attribute [go_sem] repl_1 repl_2 repl_3 spl_10 spl_20 spl_21 spl_30 spl_31 spl_32 cellsP_int cellsP_bool cellsP_str cellsP_nil cellsP_ref cellsP_sl cellsP_ptr cellsP_agg isAny_val isAny_ref isAny_sl isAny_ptr isAny_agg
  allP_nil allP_cons oneP_int oneP_bool oneP_str oneP_nil oneP_ref oneP_sl oneP_ptr List.length_replicate List.length_append get_U set_U set_U' head_U
attribute [go_sem low] repl_U
attribute [go_sem] flatU_take flatU_drop flatU_sub U_def SU_def flatL_U oneP_U
theorem closedL_U (xs : List Nat) : closedL (xs.map U) = true := by
  induction xs with
  | nil => rfl
  | cons x xs ih => simp [closedL, closed, U, ih]
theorem take_Ul (xs : List Nat) (l : List PV) : List.take xs.length (xs.map U ++ l) = xs.map U := by
  rw [List.take_append_of_le_length (by simp)]; exact List.take_of_length_le (by simp)
attribute [go_sem] take_Ul

end Go.Proofs.Ytfjdfnlkobeehaa
end
