/- Part 18 of the way to the statement: the walk and what it needs. -/
import Derived.Test.YtfjdfnlkobeehaaKDeF17
section
set_option linter.unusedVariables false
set_option linter.unusedSimpArgs false
namespace Go.Proofs.Ytfjdfnlkobeehaa

variable {P : Program}

section
variable (a b c d e : PV) (H : Nat → Option (List PV)) (nx t : Nat) (l : List PV)
theorem begP_H : (begP l H nx).H = H := rfl
theorem begP_nx : (begP l H nx).nx = nx := rfl
theorem begP_it : (begP l H nx).it = fun _ => none := rfl
theorem begP_0 : (begP [] H nx).sl t = .val undef := rfl
theorem begP_1 : (begP [a] H nx).sl t = if t = 0 then a else .val undef := by
  match t with
  | 0 => rfl
  | t + 1 => rfl
theorem begP_2 : (begP [a, b] H nx).sl t = if t = 0 then a else if t = 1 then b else .val undef := by
  match t with
  | 0 => rfl
  | 1 => rfl
  | t + 2 => simp [begP]
theorem begP_3 : (begP [a, b, c] H nx).sl t = if t = 0 then a else if t = 1 then b else if t = 2 then c else .val undef := by
  match t with
  | 0 => rfl
  | 1 => rfl
  | 2 => rfl
  | t + 3 => simp [begP]
theorem begP_4 : (begP [a, b, c, d] H nx).sl t = if t = 0 then a else if t = 1 then b else if t = 2 then c else if t = 3 then d else .val undef := by
  match t with
  | 0 => rfl
  | 1 => rfl
  | 2 => rfl
  | 3 => rfl
  | t + 4 => simp [begP]
theorem begP_5 : (begP [a, b, c, d, e] H nx).sl t = if t = 0 then a else if t = 1 then b else if t = 2 then c else if t = 3 then d else if t = 4 then e else .val undef := by
  match t with
  | 0 => rfl
  | 1 => rfl
  | 2 => rfl
  | 3 => rfl
  | 4 => rfl
  | t + 5 => simp [begP]
end
attribute [go_sem] begP_H begP_nx begP_it begP_0 begP_1 begP_2 begP_3 begP_4 begP_5

theorem ite_bind {α β : Type} (c : Prop) [Decidable c] (o : Option α) (f : α → Option β) : (if c then o else none).bind f = if c then o.bind f else none := by split <;> rfl
theorem ite_map {α β : Type} (c : Prop) [Decidable c] (o : Option α) (f : α → β) : (if c then o else none).map f = if c then o.map f else none := by split <;> rfl
attribute [go_sem] ite_bind ite_map List.getElem?_toArray
theorem get_nat {l : List Nat} {i : Nat} (h : i < l.length) : l[i]? = some (l.getD i 0) := by simp [h]
theorem get_int {l : List Int} {i : Nat} (h : i < l.length) : l[i]? = some (l.getD i 0) := by simp [h]
attribute [go_sem] get_nat get_int

attribute [go_sem] Bool.false_eq_true Bool.true_or Bool.or_true Bool.false_or Bool.or_false Bool.not_true Bool.not_false Bool.true_and Bool.and_true Option.bind_some Option.bind_none Option.map_some Option.map_none
  List.head?_drop List.getElem?_map List.length_map List.map_nil List.map_cons List.length_cons List.length_nil Int.toNat_natCast true_and and_true if_true if_false List.drop_zero Nat.mul_one Nat.one_mul Nat.zero_mul Nat.add_zero Nat.zero_add
  List.head?_cons List.drop_succ_cons List.take_succ_cons List.take_zero ne_eq not_true_eq_false not_false_eq_true decide_true decide_false List.append_nil List.nil_append List.getElem?_cons_zero List.getElem?_cons_succ

section
variable (v : Value) (n id off cap sz : Nat) (cs : List PV) (c : PV) (f : FuncId) (H : Nat → Option (List PV)) (D : Nat → Bool) (d : Nat)
theorem flat_val : flat (.val v) = true := rfl
theorem flat_sl : flat (.sl n cs) = flatL cs := rfl
theorem flat_rp : flat (.rp cs) = flatL cs := rfl
theorem flat_agg : flat (.agg cs) = flatL cs := rfl
theorem flat_tup : flat (.tup cs) = flatL cs := rfl
theorem flat_fn : flat (.fn f cs) = flatL cs := rfl
theorem flat_ref : flat (.ref id off n cap sz) = false := rfl
theorem flat_ptr : flat (.ptr id off) = false := rfl
theorem flatL_nil : flatL [] = true := rfl
theorem flatL_cons : flatL (c :: cs) = (flat c && flatL cs) := rfl
theorem closed_val : closed (.val v) = true := rfl
theorem closed_ref : closed (.ref id off n cap sz) = true := rfl
theorem closed_agg : closed (.agg cs) = closedL cs := rfl
theorem closed_tup : closed (.tup cs) = closedL cs := rfl
theorem closedL_nil : closedL [] = true := rfl
theorem closedL_cons : closedL (c :: cs) = (closed c && closedL cs) := rfl
theorem view_sl : view H (.sl n cs) = .sl n cs := rfl
theorem view_rp : view H (.rp cs) = .rp cs := rfl
theorem view_agg : view H (.agg cs) = .agg (cs.map (view1 H)) := rfl
theorem view_nil : view H (.val (.slice none 0 0)) = .sl 0 [] := rfl
theorem view_int (k : IntKind) (z : Int) : view H (.val (.int k z)) = .val (.int k z) := rfl
theorem view_bool (b : Bool) : view H (.val (.bool b)) = .val (.bool b) := rfl
theorem view_str (s : ByteArray) : view H (.val (.string s)) = .val (.string s) := rfl
theorem view_fn : view H (.fn f cs) = .fn f cs := rfl
theorem view_aggv (vs : Array Value) : view H (.val (.agg vs)) = .agg (vs.toList.map fun v => view1 H (.val v)) := rfl
theorem view1_sl : view1 H (.sl n cs) = .sl n cs := rfl
theorem view1_nil : view1 H (.val (.slice none 0 0)) = .sl 0 [] := rfl
theorem view1_int (k : IntKind) (z : Int) : view1 H (.val (.int k z)) = .val (.int k z) := rfl
theorem view1_bool (b : Bool) : view1 H (.val (.bool b)) = .val (.bool b) := rfl
theorem view1_str (s : ByteArray) : view1 H (.val (.string s)) = .val (.string s) := rfl
theorem frz_zero : frz D H 0 c = if flat c = true then some c else none := rfl
theorem frz_ref : frz D H (d + 1) (.ref id off n cap sz) = if D id = true then (H id).bind fun cs => if off + n * sz ≤ cs.length then (((cs.drop off).take (n * sz)).mapM (frz D H d)).map (.sl n) else none else none := rfl
theorem frz_agg : frz D H (d + 1) (.agg cs) = (cs.mapM (frz D H d)).map .agg := rfl
theorem frz_tup : frz D H (d + 1) (.tup cs) = (cs.mapM (frz D H d)).map .tup := rfl
theorem frz_val : frz D H (d + 1) (.val v) = some (.val v) := rfl
theorem frz_sl : frz D H (d + 1) (.sl n cs) = if flatL cs = true then some (.sl n cs) else none := rfl
end

theorem mapM_some {α : Type} {f : α → Option α} : ∀ {l : List α}, (∀ x ∈ l, f x = some x) → l.mapM f = some l
  | [], _ => rfl
  | x :: l, h => by
    rw [List.mapM_cons, h x (by simp), mapM_some (fun y hy => h y (by simp [hy]))]; rfl

theorem flatL_mem : ∀ {cs : List PV}, flatL cs = true → ∀ c ∈ cs, flat c = true
  | [], _, c, hc => by simp at hc
  | d :: cs, h, c, hc => by
    simp only [flatL, Bool.and_eq_true] at h
    rcases List.mem_cons.1 hc with rfl | hc
    · exact h.1
    · exact flatL_mem h.2 c hc

theorem frz_flat (D : Nat → Bool) (H : Nat → Option (List PV)) : ∀ (d : Nat) (c : PV), flat c = true → frz D H d c = some c := by
  intro d
  induction d with
  | zero => intro c h; simp [frz, h]
  | succ d ih =>
    intro c h
    cases c <;> simp only [flat] at h <;> simp only [frz, flat, h, if_true]
    · simp at h
    · simp at h
    · rw [mapM_some fun x hx => ih x (flatL_mem h x hx)]; rfl
    · rw [mapM_some fun x hx => ih x (flatL_mem h x hx)]; rfl

theorem frzL_flat (D : Nat → Bool) (H : Nat → Option (List PV)) (d : Nat) {cs : List PV} (h : flatL cs = true) : cs.mapM (frz D H d) = some cs :=
  mapM_some fun x hx => frz_flat D H d x (flatL_mem h x hx)


theorem end_treeW {rs : List ResultVar} {Q : PV → Prop} {st : PS} (d : Nat) (h : obind (resP P st rs) fun ps => obind (frz (fun _ => true) st.H d (tupP ps)) fun q => flat q = true ∧ Q q) :
    endQ P rs (treeQ Q) .ret st := by
  obtain ⟨ps, h1, q, h2, h3, h4⟩ := h
  exact end_tree d h1 h2 h3 h4

theorem isV_def (x r : PV) : isV x r = (r = x) := rfl
attribute [go_sem] isV_def
theorem tupP_1 (p : PV) : tupP [p] = p := rfl
theorem tupP_2 (p q : PV) (l : List PV) : tupP (p :: q :: l) = .tup (p :: q :: l) := rfl
attribute [go_sem] flat_val flat_sl flat_rp flat_agg flat_tup flat_fn flat_ref flat_ptr flatL_nil flatL_cons closed_val closed_ref closed_agg closed_tup closedL_nil closedL_cons
  view_sl view_rp view_agg view_nil view_int view_bool view_str view_fn view_aggv view1_sl view1_nil view1_int view1_bool view1_str frz_zero frz_ref frz_agg frz_tup frz_val frz_sl tupP_1 tupP_2

end Go.Proofs.Ytfjdfnlkobeehaa

namespace Go.Proofs.Ytfjdfnlkobeehaa

variable {P : Program}

section
variable {ops : Array Oper} {K : PS → Prop} {st s : PS}

def dK (P : Program) (ops : Array Oper) (K : PS → Prop) (js : List Nat) (r : List (Nat × List Nat)) (s : PS) : Prop := again P ops js s ∧ pD P ops K r s
def pDo (P : Program) (ops : Array Oper) (K : PS → Prop) (js : List Nat) (r : List (Nat × List Nat)) (o : Option Oper) (st : PS) : Prop := match o with
  | some o => pOps P ops (dK P ops K js r) [o] st
  | none => False
def againO (P : Program) (ops : Array Oper) (s : PS) (o : Option Oper) : Prop := match o with
  | some o => pOps P ops (stillAt o.dst s) [o] s
  | none => False
theorem pD_nil : pD P ops K [] st = K st := rfl
theorem pD_cons (i : Nat) (js : List Nat) (r : List (Nat × List Nat)) : pD P ops K ((i, js) :: r) st = pDo P ops K js r ops[i]? st := by
  simp only [pD, pDo]; cases ops[i]? <;> rfl
theorem pDo_some (o : Oper) (js : List Nat) (r : List (Nat × List Nat)) : pDo P ops K js r (some o) st = pOps P ops (dK P ops K js r) [o] st := rfl
theorem dK_nil (r : List (Nat × List Nat)) : dK P ops K [] r s = pD P ops K r s := by simp [dK, again]
theorem dK_cons (j : Nat) (js : List Nat) (r : List (Nat × List Nat)) : dK P ops K (j :: js) r s = (againO P ops s ops[j]? ∧ dK P ops K js r s) := by
  simp only [dK, again, againO, and_assoc]; cases ops[j]? <;> rfl
theorem againO_some (o : Oper) : againO P ops s (some o) = pOps P ops (stillAt o.dst s) [o] s := rfl
theorem stillAt_none : stillAt none s st = True := rfl
theorem stillAt_some (d : Nat) : stillAt (some d) s st = (st.sl d = s.sl d) := rfl

@[congr] theorem dK_congr {js : List Nat} {r : List (Nat × List Nat)} (h : st = s) : dK P ops K js r st = dK P ops K js r s := by rw [h]
@[congr] theorem pDo_congr {js : List Nat} {r : List (Nat × List Nat)} {o o' : Option Oper} (ho : o = o') : pDo P ops K js r o st = pDo P ops K js r o' st := by rw [ho]
@[congr] theorem againO_congr {o o' : Option Oper} (ho : o = o') : againO P ops s o = againO P ops s o' := by rw [ho]
end
theorem get_arr (l : List Oper) (i : Nat) : l.toArray[i]? = l[i]? := by simp
theorem get_zero (o : Oper) (l : List Oper) : (o :: l)[0]? = some o := rfl
theorem get_succ (o : Oper) (l : List Oper) (i : Nat) : (o :: l)[i + 1]? = l[i]? := by simp
theorem catget_zero (o : Oper) (l m : List Oper) : (List.append (o :: l) m)[0]? = some o := rfl
theorem catget_succ (o : Oper) (l m : List Oper) (i : Nat) : (List.append (o :: l) m)[i + 1]? = (List.append l m)[i]? := by simp
theorem catget_nil (m : List Oper) (i : Nat) : (List.append [] m)[i]? = m[i]? := rfl
attribute [go_sem ↓] pD_nil pD_cons pDo_some dK_nil dK_cons againO_some get_arr get_zero get_succ catget_zero catget_succ catget_nil
attribute [go_sem] stillAt_none stillAt_some

theorem sliceP_ref0 {sz id off n cap z hi : Nat} (h : hi ≤ cap) : sliceP sz (.ref id off n cap z) 0 hi = some (.ref id off hi cap z) := by
  simp [sliceP, h]
theorem sliceP_ref {sz id off n cap z lo hi : Nat} (h : lo ≤ hi ∧ hi ≤ cap) : sliceP sz (.ref id off n cap z) lo hi = some (.ref id (if cap = lo then off else off + lo * sz) (hi - lo) (cap - lo) z) := by
  simp [sliceP, h]
theorem sliceP_nil {sz : Nat} : sliceP sz (.val (.slice none 0 0)) 0 0 = some (.val (.slice none 0 0)) := by simp [sliceP]
attribute [go_sem] sliceP_ref0 sliceP_nil
attribute [go_sem low] sliceP_ref

theorem cast_nonneg (n : Nat) : (0 ≤ (n : Int)) = True := by simp
attribute [go_sem] cast_nonneg
theorem min_left' {a b : Nat} (h : a ≤ b) : min a b = a := Nat.min_eq_left h
theorem min_right' {a b : Nat} (h : b ≤ a) : min a b = b := Nat.min_eq_right h
attribute [go_sem] min_left' min_right'

section
variable (a b n : Nat)
theorem cast_add : (a : Int) + (b : Int) = ((a + b : Nat) : Int) := by omega
theorem cast_mul : (a : Int) * (b : Int) = ((a * b : Nat) : Int) := by simp
theorem cast_div : (a : Int) / (b : Int) = ((a / b : Nat) : Int) := by simp
theorem cast_mod : (a : Int) % (b : Int) = ((a % b : Nat) : Int) := by simp
theorem cast_addn : (a : Int) + no_index (@OfNat.ofNat Int n _) = ((a + @OfNat.ofNat Nat n _ : Nat) : Int) := by rw [Int.natCast_add]; rfl
theorem cast_muln : (a : Int) * no_index (@OfNat.ofNat Int n _) = ((a * @OfNat.ofNat Nat n _ : Nat) : Int) := by rw [Int.natCast_mul]; rfl
theorem cast_divn : (a : Int) / no_index (@OfNat.ofNat Int n _) = ((a / @OfNat.ofNat Nat n _ : Nat) : Int) := by rw [Int.natCast_ediv]; rfl
theorem cast_modn : (a : Int) % no_index (@OfNat.ofNat Int n _) = ((a % @OfNat.ofNat Nat n _ : Nat) : Int) := by rw [Int.natCast_emod]; rfl
theorem cast_nadd : no_index (@OfNat.ofNat Int n _) + (a : Int) = ((@OfNat.ofNat Nat n _ + a : Nat) : Int) := by rw [Int.natCast_add]; rfl
theorem cast_nmul : no_index (@OfNat.ofNat Int n _) * (a : Int) = ((@OfNat.ofNat Nat n _ * a : Nat) : Int) := by rw [Int.natCast_mul]; rfl
theorem cast_sub {a b : Nat} (h : b ≤ a) : (a : Int) - (b : Int) = ((a - b : Nat) : Int) := by omega
theorem cast_subn {a n : Nat} (h : @OfNat.ofNat Nat n _ ≤ a) : (a : Int) - no_index (@OfNat.ofNat Int n _) = ((a - @OfNat.ofNat Nat n _ : Nat) : Int) := (cast_sub h)
end
attribute [go_sem low] cast_add cast_mul cast_div cast_mod cast_sub
attribute [go_sem] cast_addn cast_muln cast_divn cast_modn cast_nadd cast_nmul cast_subn

theorem planAt_cons (i j : Nat) (p : List (Nat × List Nat)) (l : List (Nat × List (Nat × List Nat))) : planAt ((i, p) :: l) j = if i = j then p else planAt l j := rfl
attribute [go_sem] planAt_cons
@[congr] theorem pD_congr2 {ops : Array Oper} {K : PS → Prop} {l l' : List (Nat × List Nat)} {st s : PS} (hl : l = l') (h : st = s) : pD P ops K l st = pD P ops K l' s := by rw [h, hl]

end Go.Proofs.Ytfjdfnlkobeehaa
end
