/- Rules for regions that draw their order. Program independent. -/
import Derived.Test.YtfbmdbgjfnkmiaaRules3
set_option linter.unusedVariables false
set_option linter.unusedSimpArgs false
namespace Go.Proofs.Ytfbmdbgjfnkmiaa

variable {P : Program}

section
variable {ops : Array Oper} {K : PS → Prop} {st s : PS}
/-- Behind one operation of the order that is walked. -/
def dK (P : Program) (ops : Array Oper) (K : PS → Prop) (js : List Nat) (r : List (Nat × List Nat)) (s : PS) : Prop := again P ops js s ∧ pD P ops K r s
def pDo (P : Program) (ops : Array Oper) (K : PS → Prop) (js : List Nat) (r : List (Nat × List Nat)) (o : Option Oper) (st : PS) : Prop := match o with
  | some o => pOps P ops (dK P ops K js r) [o] st
  | none => False
def againO (P : Program) (ops : Array Oper) (s : PS) (o : Option Oper) : Prop := match o with
  | some o => pOps P ops (stillAt o.dst s) [o] s
  | none => False
theorem pD_nil : pD P ops K [] st = K st := rfl
theorem pD_cons (i : Nat) (js : List Nat) (r : List (Nat × List Nat)) : pD P ops K ((i, js) :: r) st = pDo P ops K js r ops[i]? st := by
  simp only [pD, pDo]; cases ops[i]? <;> rfl
theorem pDo_some (o : Oper) (js : List Nat) (r : List (Nat × List Nat)) : pDo P ops K js r (some o) st = pOps P ops (dK P ops K js r) [o] st := rfl
theorem dK_nil (r : List (Nat × List Nat)) : dK P ops K [] r s = pD P ops K r s := by simp [dK, again]
theorem dK_cons (j : Nat) (js : List Nat) (r : List (Nat × List Nat)) : dK P ops K (j :: js) r s = (againO P ops s ops[j]? ∧ dK P ops K js r s) := by
  simp only [dK, again, againO, and_assoc]; cases ops[j]? <;> rfl
theorem againO_some (o : Oper) : againO P ops s (some o) = pOps P ops (stillAt o.dst s) [o] s := rfl
theorem stillAt_none : stillAt none s st = True := rfl
theorem stillAt_some (d : Nat) : stillAt (some d) s st = (st.sl d = s.sl d) := rfl

@[congr] theorem dK_congr {js : List Nat} {r : List (Nat × List Nat)} (h : st = s) : dK P ops K js r st = dK P ops K js r s := by rw [h]
@[congr] theorem pDo_congr {js : List Nat} {r : List (Nat × List Nat)} {o o' : Option Oper} (ho : o = o') : pDo P ops K js r o st = pDo P ops K js r o' st := by rw [ho]
@[congr] theorem againO_congr {o o' : Option Oper} (ho : o = o') : againO P ops s o = againO P ops s o' := by rw [ho]
end
theorem get_arr (l : List Oper) (i : Nat) : l.toArray[i]? = l[i]? := by simp
theorem get_zero (o : Oper) (l : List Oper) : (o :: l)[0]? = some o := rfl
theorem get_succ (o : Oper) (l : List Oper) (i : Nat) : (o :: l)[i + 1]? = l[i]? := by simp
theorem cat_cons (o : Oper) (l m : List Oper) : List.append (o :: l) m = o :: List.append l m := rfl
theorem cat_nil (m : List Oper) : List.append [] m = m := rfl
theorem catget_zero (o : Oper) (l m : List Oper) : (List.append (o :: l) m)[0]? = some o := rfl
theorem catget_succ (o : Oper) (l m : List Oper) (i : Nat) : (List.append (o :: l) m)[i + 1]? = (List.append l m)[i]? := by simp
theorem catget_nil (m : List Oper) (i : Nat) : (List.append [] m)[i]? = m[i]? := rfl
attribute [go_sem ↓] pD_nil pD_cons pDo_some dK_nil dK_cons againO_some get_arr get_zero get_succ catget_zero catget_succ catget_nil
attribute [go_sem] stillAt_none stillAt_some

theorem sliceP_ref0 {sz id off n cap z hi : Nat} (h : hi ≤ cap) : sliceP sz (.ref id off n cap z) 0 hi = some (.ref id off hi cap z) := by
  simp [sliceP, h]
theorem sliceP_ref {sz id off n cap z lo hi : Nat} (h : lo ≤ hi ∧ hi ≤ cap) : sliceP sz (.ref id off n cap z) lo hi = some (.ref id (if cap = lo then off else off + lo * sz) (hi - lo) (cap - lo) z) := by
  simp [sliceP, h]
theorem sliceP_nil {sz : Nat} : sliceP sz (.val (.slice none 0 0)) 0 0 = some (.val (.slice none 0 0)) := by simp [sliceP]
attribute [go_sem] sliceP_ref0 sliceP_nil
attribute [go_sem low] sliceP_ref

theorem cast_nonneg (n : Nat) : (0 ≤ (n : Int)) = True := by simp
attribute [go_sem] cast_nonneg
theorem min_left' {a b : Nat} (h : a ≤ b) : min a b = a := Nat.min_eq_left h
theorem min_right' {a b : Nat} (h : b ≤ a) : min a b = b := Nat.min_eq_right h
attribute [go_sem] min_left' min_right'
/-! Whole numbers that are naturals -/
section
variable (a b n : Nat)
theorem cast_add : (a : Int) + (b : Int) = ((a + b : Nat) : Int) := by omega
theorem cast_mul : (a : Int) * (b : Int) = ((a * b : Nat) : Int) := by simp
theorem cast_div : (a : Int) / (b : Int) = ((a / b : Nat) : Int) := by simp
theorem cast_mod : (a : Int) % (b : Int) = ((a % b : Nat) : Int) := by simp
theorem cast_addn : (a : Int) + no_index (@OfNat.ofNat Int n _) = ((a + @OfNat.ofNat Nat n _ : Nat) : Int) := by rw [Int.natCast_add]; rfl
theorem cast_muln : (a : Int) * no_index (@OfNat.ofNat Int n _) = ((a * @OfNat.ofNat Nat n _ : Nat) : Int) := by rw [Int.natCast_mul]; rfl
theorem cast_divn : (a : Int) / no_index (@OfNat.ofNat Int n _) = ((a / @OfNat.ofNat Nat n _ : Nat) : Int) := by rw [Int.natCast_ediv]; rfl
theorem cast_modn : (a : Int) % no_index (@OfNat.ofNat Int n _) = ((a % @OfNat.ofNat Nat n _ : Nat) : Int) := by rw [Int.natCast_emod]; rfl
theorem cast_nadd : no_index (@OfNat.ofNat Int n _) + (a : Int) = ((@OfNat.ofNat Nat n _ + a : Nat) : Int) := by rw [Int.natCast_add]; rfl
theorem cast_nmul : no_index (@OfNat.ofNat Int n _) * (a : Int) = ((@OfNat.ofNat Nat n _ * a : Nat) : Int) := by rw [Int.natCast_mul]; rfl
theorem cast_sub {a b : Nat} (h : b ≤ a) : (a : Int) - (b : Int) = ((a - b : Nat) : Int) := by omega
theorem cast_subn {a n : Nat} (h : @OfNat.ofNat Nat n _ ≤ a) : (a : Int) - no_index (@OfNat.ofNat Int n _) = ((a - @OfNat.ofNat Nat n _ : Nat) : Int) := (cast_sub h)
end
attribute [go_sem low] cast_add cast_mul cast_div cast_mod cast_sub
attribute [go_sem] cast_addn cast_muln cast_divn cast_modn cast_nadd cast_nmul cast_subn

theorem planAt_cons (i j : Nat) (p : List (Nat × List Nat)) (l : List (Nat × List (Nat × List Nat))) : planAt ((i, p) :: l) j = if i = j then p else planAt l j := rfl
attribute [go_sem] planAt_cons
@[congr] theorem pD_congr2 {ops : Array Oper} {K : PS → Prop} {l l' : List (Nat × List Nat)} {st s : PS} (hl : l = l') (h : st = s) : pD P ops K l st = pD P ops K l' s := by rw [h, hl]

end Go.Proofs.Ytfbmdbgjfnkmiaa
