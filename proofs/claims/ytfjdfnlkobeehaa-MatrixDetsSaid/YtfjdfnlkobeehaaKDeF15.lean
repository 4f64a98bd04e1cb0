/- Part 15 of the way to the statement: the walk and what it needs. -/
import Derived.Test.YtfjdfnlkobeehaaKDeF14
section
set_option linter.unusedVariables false
set_option linter.unusedSimpArgs false
namespace Go.Proofs.Ytfjdfnlkobeehaa

variable {P : Program}


def obind {α : Type} (o : Option α) (k : α → Prop) : Prop := ∃ p, o = some p ∧ k p
@[congr] theorem obind_congr {α : Type} {o o' : Option α} {k : α → Prop} (h : o = o') : obind o k = obind o' k := by rw [h]
theorem obind_some {α : Type} (x : α) (k : α → Prop) : obind (some x) k = k x := by simp [obind]
theorem obind_none {α : Type} (k : α → Prop) : obind none k = False := by simp [obind]
theorem obind_map {α β : Type} (f : α → β) (o : Option α) (k : β → Prop) : obind (o.map f) k = obind o (fun x => k (f x)) := by
  cases o <;> simp [obind]
theorem obind_bind {α β : Type} (f : α → Option β) (o : Option α) (k : β → Prop) : obind (o.bind f) k = obind o (fun x => obind (f x) k) := by
  cases o <;> simp [obind]
theorem obind_ite {α : Type} (c : Prop) [Decidable c] (o : Option α) (k : α → Prop) : obind (if c then o else none) k = (c ∧ obind o k) := by
  by_cases h : c <;> simp [obind, h]
attribute [go_sem] obind_some obind_none obind_map obind_bind obind_ite

@[congr] theorem LW_congr {c : Cx} {code : Code} {Q : Exit → PS → Prop} {st st' : PS} (h : st = st') : LW P c code Q st = LW P c code Q st' := by rw [h]
@[congr] theorem condC_congr {p p' : PV} {x y : Prop} (h : p = p') : condC p x y = condC p' x y := by rw [h]
@[congr] theorem pw_congr {c : Cx} {code : Code} {Q : Exit → PS → Prop} {st st' : PS} (h : st = st') : pw P c code Q st = pw P c code Q st' := by rw [h]
@[congr] theorem pOps_congr {ops : Array Oper} {K : PS → Prop} {l : List Oper} {st st' : PS} (h : st = st') : pOps P ops K l st = pOps P ops K l st' := by rw [h]
@[congr] theorem callP_congr {f : FuncId} {as as' : List PV} {st st' : PS} {K : PV → PS → Prop} (h : as = as') (h' : st = st') : callP P f as st K = callP P f as' st' K := by rw [h, h']
@[congr] theorem callM_congr {f : FuncId} {as as' : List PV} {st st' : PS} {K : PV → PS → Prop} (h : as = as') (h' : st = st') : callM P f as st K = callM P f as' st' K := by rw [h, h']
@[congr] theorem pCall_congr {f : FuncId} {as as' : List PV} {st st' : PS} {K : PV → PS → Prop} (h : as = as') (h' : st = st') : pCall P f as st K = pCall P f as' st' K := by rw [h, h']

section
variable {c : Cx} {Q : Exit → PS → Prop} {st : PS}
theorem pw_scope (x : Code) : pw P c (.scope x) Q st = pw P c x (scopeQ Q) st := rfl
theorem scopeQ_normal (s : PS) : scopeQ Q .normal s = Q .normal s := rfl
theorem scopeQ_exit (i : Nat) (s : PS) : scopeQ Q (.exit i) s = Q (.exit i) s := rfl
theorem scopeQ_ret (s : PS) : scopeQ Q .ret s = Q .ret s := rfl
theorem pw_skip : pw P c .skip Q st = Q .normal st := rfl
theorem pw_label (l : Nat) : pw P c (.label l) Q st = Q .normal st := rfl
theorem pw_exit (i : Nat) : pw P c (.exit i) Q st = Q (.exit i) st := rfl
theorem pw_ret : pw P c .ret Q st = Q .ret st := rfl
theorem pw_seq (x y : Code) : pw P c (.seq x y) Q st = pw P c x (seqQ (pw P c y Q) Q) st := rfl
theorem pw_cond (o : Operand) (x y : Code) : pw P c (.cond o x y) Q st = condC (st.ev o) (pw P c x Q st) (pw P c y Q st) := rfl
theorem pw_block (i : Nat) (x : Code) : pw P c (.block i x) Q st = pw P c x (blockQ i Q) st := rfl
theorem pw_loop (x : Code) : pw P c (.loop x) Q st = LW P c (.loop x) Q st := rfl
theorem pw_draw (i : Nat) (ops : Array Oper) : pw P c (.region i ops true) Q st = pD P ops (Q .normal) (planAt c.tb i) st := rfl
theorem pw_region (i : Nat) (l : List Oper) : pw P c (.region i l.toArray false) Q st = pOps P l.toArray (Q .normal) l st := by
  simp [pw]
end
attribute [go_sem ↓] pw_scope scopeQ_normal scopeQ_exit scopeQ_ret
attribute [go_sem ↓] pw_skip pw_label pw_exit pw_ret pw_seq pw_cond pw_block pw_loop pw_draw pw_region

section
variable {K : PS → Prop} {Q : Exit → PS → Prop} {s : PS}
theorem seqQ_normal : seqQ K Q .normal s = K s := rfl
theorem seqQ_exit (i : Nat) : seqQ K Q (.exit i) s = Q (.exit i) s := rfl
theorem seqQ_ret : seqQ K Q .ret s = Q .ret s := rfl
theorem blockQ_normal (i : Nat) : blockQ i Q .normal s = Q .normal s := rfl
theorem blockQ_ret (i : Nat) : blockQ i Q .ret s = Q .ret s := rfl
theorem blockQ_exit (i j : Nat) : blockQ i Q (.exit j) s = if j = i then Q .normal s else Q (.exit j) s := rfl
end
attribute [go_sem ↓] seqQ_normal seqQ_exit seqQ_ret blockQ_normal blockQ_ret blockQ_exit

section
variable {st : PS}
theorem ev_tmp (t : Nat) : st.ev (.tmp t) = st.sl t := rfl
theorem ev_const (v : Value) : st.ev (.const v) = .val v := rfl
theorem ev_func (f : FuncId) : st.ev (.func f) = .fn f [] := rfl
theorem put_sl (d t : Nat) (p : PV) : (st.put (some d) p).sl t = if t = d then p else st.sl t := rfl
theorem put_H (d : Option Nat) (p : PV) : (st.put d p).H = st.H := by cases d <;> rfl
theorem put_nx (d : Option Nat) (p : PV) : (st.put d p).nx = st.nx := by cases d <;> rfl
theorem put_it (d : Option Nat) (p : PV) : (st.put d p).it = st.it := by cases d <;> rfl
theorem put_none (p : PV) : st.put none p = st := rfl
end
attribute [go_sem] ev_tmp ev_const ev_func put_sl put_H put_nx put_it put_none


section
variable {ops : Array Oper} {K : PS → Prop} {r : List Oper} {st : PS} {d : Option Nat} {ty : TypeId} {pos : String} {aft : Array Edge}


def qstep (P : Program) (ops : Array Oper) (K : PS → Prop) (r : List Oper) (st : PS) (d : Option Nat) (o : Option PV) : Prop := ∃ p, o = some p ∧ pOps P ops K r (st.put d p)
theorem qstep_some (p : PV) : qstep P ops K r st d (some p) = pOps P ops K r (st.put d p) := by simp [qstep]
theorem qstep_none : qstep P ops K r st d none = False := by simp [qstep]
theorem qstep_ite (c : Prop) [Decidable c] (o : Option PV) : qstep P ops K r st d (if c then o else none) = (c ∧ qstep P ops K r st d o) := by
  by_cases h : c <;> simp [qstep, h]

def nstep (P : Program) (ops : Array Oper) (K : PS → Prop) (r : List Oper) (d : Option Nat) (p : PV) (st : PS) : Prop := pOps P ops K r (st.put d p)
theorem nstep_eq (p : PV) : nstep P ops K r d p st = pOps P ops K r (st.put d p) := rfl
def sstep (P : Program) (ops : Array Oper) (K : PS → Prop) (r : List Oper) (d : Option Nat) (st : PS) : Prop := pOps P ops K r (st.put d (.val undef))
theorem sstep_eq : sstep P ops K r d st = pOps P ops K r (st.put d (.val undef)) := rfl
theorem pOps_nil : pOps P ops K [] st = K st := rfl
theorem pOps_cat (o : Oper) (l m : List Oper) : pOps P ops K (List.append (o :: l) m) st = pOps P ops K (o :: List.append l m) st := rfl
theorem pOps_cat_nil (m : List Oper) : pOps P ops K (List.append [] m) st = pOps P ops K m st := rfl

def gstep (P : Program) (ops : Array Oper) (K : PS → Prop) (o : Oper) (r : List Oper) (st : PS) (want : Bool) (v : PV) : Prop := match v with
  | .val (.bool b) => (b = want → pOps P ops K (o :: r) st) ∧ (b ≠ want → pOps P ops K r (st.put o.dst (.val undef)))
  | .val (.tuple _) => pOps P ops K r (st.put o.dst (.val undef))
  | _ => False

def slotV (st : PS) (d : Option Nat) : PV := match d with
  | some d => st.sl d
  | none => .any
theorem slotV_some (d : Nat) : slotV st (some d) = st.sl d := rfl
theorem pOps_guard (op : Op) (j : Nat) (w : Bool) : pOps P ops K (⟨d, op, ty, pos, aft, some (j, w)⟩ :: r) st =
    gstep P ops K ⟨d, op, ty, pos, aft, none⟩ r st w (slotV st ((ops[j]?).bind (·.dst))) := by
  simp only [pOps, pGuard, gstep]
  cases (ops[j]?).bind (·.dst) with
  | none => rfl
  | some d => simp only [slotV]; rfl

def pickP (c a b : PV) : Option PV := match c with
  | .val (.bool t) => some (if t then a else b)
  | _ => none
def binP (P : Program) (op : BinOp) (t : TypeId) (x y : PV) : Option PV := match x, y with
  | .val (.bool a), .val (.bool b) => if boolT P t = true then (binV op (.bool a) (.bool b)).map .val else none
  | .val a, .val b => (binV op a b).map .val
  | _, _ => none
def unP (op : UnOp) (x : PV) : Option PV := match x with
  | .val a => (unV op a).map .val
  | _ => none
def indexAddrP (P : Program) (t : TypeId) (x i : PV) : Option PV := match elemT P t with
  | some e => match sizeT P e, i with
    | some sz, .val (.int _ n) => idxP sz x n
    | _, _ => none
  | none => none
def indexP (P : Program) (t : TypeId) (x i : PV) : Option PV := match x, i with
  | .val (.string s), .val (.int _ n) => if strT P t = true ∧ 0 ≤ n then (s[n.toNat]?).map fun b => .val (.int .u8 b.toNat) else none
  | _, _ => none
def loadP (P : Program) (H : Nat → Option (List PV)) (t : TypeId) (p : PV) : Option PV := match sizeT P t with
  | some n => if aggT P t || oneT P t then ldP (aggT P t) n H p else none
  | none => none
def fieldAddrP (P : Program) (s : TypeId) (p : PV) (f : Nat) : Option PV := match fieldT P s f with
  | some (off, t) => match sizeT P t with
    | some (n + 1) => fldP off p
    | _ => none
  | none => none
def fieldP (P : Program) (s : TypeId) (x : PV) (f : Nat) : Option PV := match fieldT P s f, aggP x with
  | some (off, t), some cs => match sizeT P t with
    | some n => if aggT P t || oneT P t then ldC (aggT P t) n (cs.drop off) else none
    | none => none
  | _, _ => none
def extractP (x : PV) (i : Nat) : Option PV := match x with
  | .tup cs => cs[i]?
  | _ => none
def nilCheckP (x : PV) : Option PV := match x with
  | .ptr id off => some (.ptr id off)
  | .rp cs => some (.rp cs)
  | _ => none
def lenOfP (P : Program) (t : TypeId) (x : PV) : Option PV :=
  if strT P t then (match x with
    | .val (.string s) => some (.val (.int .i64 s.size))
    | _ => none)
  else (match elemT P t, x with
    | some _, .val (.string _) => none
    | some _, x => (lenP x).map fun n => .val (.int .i64 n)
    | _, _ => none)
def capOfP (P : Program) (t : TypeId) (x : PV) : Option PV := match elemT P t, x with
  | some _, x => (capP x).map fun n => .val (.int .i64 n)
  | _, _ => none

def bndV (d : Nat) : Option PV → Option Nat
  | none => some d
  | some (.val (.int _ n)) => if 0 ≤ n then some n.toNat else none
  | some _ => none
def sliceOfP (P : Program) (t : TypeId) (x : PV) (lo hi : Option PV) : Option PV :=
  if strT P t then (match x with
    | .val (.string s) => match bndV s.size hi, bndV 0 lo with
      | some h, some l => sliceP 1 (.val (.string s)) l h
      | _, _ => none
    | _ => none)
  else match elemT P t with
    | some e => match sizeT P e, lenP x with
      | some sz, some n => match bndV n hi, bndV 0 lo, x with
        | _, _, .val (.string _) => none
        | some h, some l, x => sliceP sz x l h
        | _, _, _ => none
      | _, _ => none
    | none => none

theorem bndP_eq (n : Nat) (o : Option Operand) : bndP st n o = bndV n (o.map st.ev) := by
  cases o with
  | none => rfl
  | some x => simp only [bndP, Option.map_some]; cases st.ev x <;> simp [bndV]; rename_i v; cases v <;> simp

theorem pOps_move (x : Operand) : pOps P ops K (⟨d, .move x, ty, pos, aft, none⟩ :: r) st = qstep P ops K r st d (some (st.ev x)) := rfl
theorem pOps_assign (x : Operand) : pOps P ops K (⟨d, .assign x, ty, pos, aft, none⟩ :: r) st = qstep P ops K r st d (some (st.ev x)) := rfl
theorem pOps_pick (x a b : Operand) : pOps P ops K (⟨d, .pick x a b, ty, pos, aft, none⟩ :: r) st = qstep P ops K r st d (pickP (st.ev x) (st.ev a) (st.ev b)) := rfl
theorem pOps_binOp (op : BinOp) (t t' : TypeId) (x y : Operand) : pOps P ops K (⟨d, .binOp op t x y t', ty, pos, aft, none⟩ :: r) st = qstep P ops K r st d (binP P op t (st.ev x) (st.ev y)) := rfl
theorem pOps_unOp (op : UnOp) (t : TypeId) (x : Operand) : pOps P ops K (⟨d, .unOp op t x, ty, pos, aft, none⟩ :: r) st = qstep P ops K r st d (unP op (st.ev x)) := rfl
theorem pOps_convert (t t' : TypeId) (x : Operand) : pOps P ops K (⟨d, .convert t t' x, ty, pos, aft, none⟩ :: r) st = qstep P ops K r st d (convP P st.H t t' (st.ev x)) := rfl
theorem pOps_indexAddr (t : TypeId) (x i : Operand) : pOps P ops K (⟨d, .indexAddr t x i, ty, pos, aft, none⟩ :: r) st = qstep P ops K r st d (indexAddrP P t (st.ev x) (st.ev i)) := rfl
theorem pOps_index (t : TypeId) (x i : Operand) : pOps P ops K (⟨d, .index t x i, ty, pos, aft, none⟩ :: r) st = qstep P ops K r st d (indexP P t (st.ev x) (st.ev i)) := rfl
theorem pOps_load (t : TypeId) (x : Operand) : pOps P ops K (⟨d, .load t x, ty, pos, aft, none⟩ :: r) st = qstep P ops K r st d (loadP P st.H t (st.ev x)) := rfl
theorem pOps_fieldAddr (t : TypeId) (x : Operand) (f : Nat) : pOps P ops K (⟨d, .fieldAddr t x f, ty, pos, aft, none⟩ :: r) st = qstep P ops K r st d (fieldAddrP P t (st.ev x) f) := rfl
theorem pOps_field (t : TypeId) (x : Operand) (f : Nat) : pOps P ops K (⟨d, .field t x f, ty, pos, aft, none⟩ :: r) st = qstep P ops K r st d (fieldP P t (st.ev x) f) := rfl
theorem pOps_extract (x : Operand) (i : Nat) : pOps P ops K (⟨d, .extract x i, ty, pos, aft, none⟩ :: r) st = qstep P ops K r st d (extractP (st.ev x) i) := rfl
theorem pOps_nilCheck (x : Operand) : pOps P ops K (⟨d, .nilCheck x, ty, pos, aft, none⟩ :: r) st = qstep P ops K r st d (nilCheckP (st.ev x)) := rfl
theorem pOps_len (x : Operand) (t : TypeId) : pOps P ops K (⟨d, .call ⟨.builtin .len, #[x], #[t]⟩, ty, pos, aft, none⟩ :: r) st = qstep P ops K r st d (lenOfP P t (st.ev x)) := rfl
theorem pOps_cap (x : Operand) (t : TypeId) : pOps P ops K (⟨d, .call ⟨.builtin .cap, #[x], #[t]⟩, ty, pos, aft, none⟩ :: r) st = qstep P ops K r st d (capOfP P t (st.ev x)) := rfl
theorem pOps_max (x y : Operand) (t t' : TypeId) : pOps P ops K (⟨d, .call ⟨.builtin .max, #[x, y], #[t, t']⟩, ty, pos, aft, none⟩ :: r) st = qstep P ops K r st d (maxP (st.ev x) (st.ev y)) := rfl
theorem pOps_slice (t : TypeId) (x : Operand) (lo hi : Option Operand) : pOps P ops K (⟨d, .slice t x lo hi none, ty, pos, aft, none⟩ :: r) st = qstep P ops K r st d (sliceOfP P t (st.ev x) (lo.map st.ev) (hi.map st.ev)) := by
  simp only [pOps, pGuard, pOp, qv, qstep, sliceOfP, bndP_eq]
  rfl
theorem pOps_build (t : TypeId) (parts : Array (Nat × Operand)) : pOps P ops K (⟨d, .build t parts, ty, pos, aft, none⟩ :: r) st =
    qstep P ops K r st d ((zeroT P t).bind fun z => if sizedT P t then (buildF P st t parts.toList (z.map .val)).map .agg else none) := by
  simp only [pOps, pGuard, pOp, qv, qstep]
  cases zeroT P t <;> rfl
theorem pOps_makeFunc (f : FuncId) (caps : Array Operand) : pOps P ops K (⟨d, .makeFunc (.func f) #[] caps, ty, pos, aft, none⟩ :: r) st = pOps P ops K r (st.put d (.fn f (caps.toList.map st.ev))) := by
  simp [pOps, pGuard, pOp, qv]
theorem pOps_store (t : TypeId) (x y : Operand) : pOps P ops K (⟨d, .store t x y, ty, pos, aft, none⟩ :: r) st = pStore P st t (st.ev x) (st.ev y) (sstep P ops K r d) := rfl
theorem pOps_alloc (e : TypeId) : pOps P ops K (⟨d, .alloc e, ty, pos, aft, none⟩ :: r) st = pAlloc P st e (nstep P ops K r d) := rfl
theorem pOps_box (e : TypeId) (x : Operand) : pOps P ops K (⟨d, .box e x, ty, pos, aft, none⟩ :: r) st = pBox st (st.ev x) (nstep P ops K r d) := rfl
theorem pOps_makeSlice (t : TypeId) (x y : Operand) : pOps P ops K (⟨d, .makeSlice t x y, ty, pos, aft, none⟩ :: r) st = pMake P st t (st.ev x) (st.ev y) (nstep P ops K r d) := rfl
theorem pOps_buildSlice (t : TypeId) (n : Nat) (parts : Array (Nat × Operand)) : pOps P ops K (⟨d, .buildSlice t n parts, ty, pos, aft, none⟩ :: r) st = pBuildSlice P st t n parts.toList (nstep P ops K r d) := rfl
theorem pOps_range (t : TypeId) (x : Operand) : pOps P ops K (⟨d, .range t x, ty, pos, aft, none⟩ :: r) st = pRange P st t (st.ev x) (nstep P ops K r d) := rfl
theorem pOps_next (x : Operand) : pOps P ops K (⟨d, .next x true, ty, pos, aft, none⟩ :: r) st = pNext st (st.ev x) (nstep P ops K r d) := rfl
theorem pOps_append (x y : Operand) (t t' : TypeId) : pOps P ops K (⟨d, .call ⟨.builtin .append, #[x, y], #[t, t']⟩, ty, pos, aft, none⟩ :: r) st = pAppend P st t t' (st.ev x) (st.ev y) (nstep P ops K r d) := rfl
theorem pOps_copy (x y : Operand) (t t' : TypeId) : pOps P ops K (⟨d, .call ⟨.builtin .copy, #[x, y], #[t, t']⟩, ty, pos, aft, none⟩ :: r) st = pCopy P st t (st.ev x) (st.ev y) (nstep P ops K r d) := rfl
theorem pOps_call (f : FuncId) (args : Array Operand) (tys : Array TypeId) : pOps P ops K (⟨d, .call ⟨.value (.func f), args, tys⟩, ty, pos, aft, none⟩ :: r) st =
    pCall P f (args.toList.map st.ev) st (nstep P ops K r d) := by
  simp only [pOps, pGuard, pOp, ev_func, nstep]
  apply propext
  constructor
  · rintro ⟨g, caps, h, hp⟩
    simp at h; obtain ⟨rfl, rfl⟩ := h
    rw [List.append_nil] at hp; exact hp
  · intro hp; exact ⟨f, [], rfl, by rw [List.append_nil]; exact hp⟩
theorem pOps_callv (t : Nat) (args : Array Operand) (tys : Array TypeId) : pOps P ops K (⟨d, .call ⟨.value (.tmp t), args, tys⟩, ty, pos, aft, none⟩ :: r) st =
    ∃ g caps, st.sl t = .fn g caps ∧ pCall P g (args.toList.map st.ev ++ caps) st (nstep P ops K r d) := rfl
end
attribute [go_sem] qstep_some qstep_none qstep_ite nstep_eq sstep_eq slotV_some
attribute [go_sem ↓] pOps_nil pOps_cat pOps_cat_nil pOps_guard pOps_move pOps_assign pOps_pick pOps_binOp pOps_unOp pOps_convert pOps_indexAddr pOps_index pOps_load pOps_fieldAddr pOps_field pOps_extract pOps_nilCheck pOps_len pOps_cap pOps_max
  pOps_slice pOps_build pOps_makeFunc pOps_store pOps_alloc pOps_box pOps_makeSlice pOps_buildSlice pOps_range pOps_next pOps_append pOps_copy pOps_call pOps_callv

end Go.Proofs.Ytfjdfnlkobeehaa
end
