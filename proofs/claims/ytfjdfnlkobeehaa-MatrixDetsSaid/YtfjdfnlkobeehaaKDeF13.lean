/- Part 13 of the way to the statement: the walk and what it needs. -/
import Derived.Test.YtfjdfnlkobeehaaKDeF12
section
set_option linter.unusedVariables false
set_option linter.unusedSimpArgs false
namespace Go.Proofs.Ytfjdfnlkobeehaa

variable {P : Program}


def dstOK (n : Nat) (ops : List Oper) : Bool := ops.all fun o => match o.dst with
  | some d => decide (d < n)
  | none => true


def quietOp : Op → Bool
  | .move _ => true
  | .assign _ => true
  | .pick .. => true
  | .binOp .. => true
  | .unOp .. => true
  | .convert .. => true
  | .indexAddr .. => true
  | .index .. => true
  | .load .. => true
  | .fieldAddr .. => true
  | .build .. => true
  | .field .. => true
  | .extract .. => true
  | .nilCheck .. => true
  | .slice .. => true
  | .call ⟨.builtin .len, _, _⟩ => true
  | .call ⟨.builtin .cap, _, _⟩ => true
  | .call ⟨.builtin .max, _, _⟩ => true
  | _ => false

def notSel : Op → Bool
  | .select .. => false
  | _ => true

theorem notSel_spec {op : Op} (h : notSel op = true) : ∀ cs b, op ≠ .select cs b := by
  rintro cs b rfl; simp [notSel] at h

theorem pOp_quiet {o : Oper} {K : PS → Prop} {st : PS} (hq : quietOp o.op = true) (h : pOp P o K st) : ∃ p, qv P st o.op = some p ∧ K (st.put o.dst p) := by
  obtain ⟨dst, op, ty, pos, aft, g⟩ := o
  cases op <;> simp only [quietOp, Bool.false_eq_true] at hq
  case call c =>
    obtain ⟨callee, args, tys⟩ := c
    cases callee with
    | builtin b => cases b <;> simp only [Bool.false_eq_true] at hq <;> simpa [pOp] using h
    | value f => simp at hq
    | invoke r m => simp at hq
  all_goals simpa [pOp] using h


def reach (ops : Array Oper) : Nat → Nat → Nat → Bool
  | 0, _, _ => false
  | f + 1, i, j => match ops[i]? with
    | some o => o.after.toList.any fun e => Region.binds .any e && (e.on == j || reach ops f e.on j)
    | none => false

def dstNot (d : Option Tmp) (l : List Tmp) : Bool := match d with
  | some d => !l.contains d
  | none => true
def dstNe (d e : Option Tmp) : Bool := match d with
  | some d => e != some d
  | none => true


def mayFlo (o : Oper) : Bool := o.guard.isNone && match o.op with
  | .alloc _ => true
  | .buildSlice .. => true
  | _ => false
def floP (ops : Array Oper) : Operand → Bool
  | .const _ => true
  | .tmp t => ops.toList.all fun o => o.dst != some t || !mayFlo o
  | _ => false
def floB (ops : Array Oper) (o : Oper) : Bool := mayFlo o && o.op.operands.toList.all (floP ops)


def pairOK (P : Program) (rc : Nat → Nat → Bool) (ops : Array Oper) (i : Nat) (oi : Oper) (js : List Nat) (j : Nat) : Bool := match ops[j]? with
  | some oj => dstNot oi.dst (oj.looksAt ops) && dstNe oi.dst oj.dst && ((quietOp oj.op && dstNot oj.dst (oi.looksAt ops) && (quietOp oi.op || js.contains j)) || rc i j || (floB ops oi && !quietOp oj.op && dstNot oj.dst (oi.looksAt ops)))
  | none => false


def lateOK (rc : Nat → Nat → Bool) (ops : Array Oper) (i : Nat) (oi : Oper) (r : List (Nat × List Nat)) (j : Nat) : Bool := match ops[j]? with
  | some oj => dstNe oi.dst oj.dst && (rc i j && r.all fun k => rc k.1 j) && !floB ops oi
  | none => false

def goOK (P : Program) (rc : Nat → Nat → Bool) (n : Nat) (ops : Array Oper) : List Nat → List (Nat × List Nat) → Bool
  | _, [] => true
  | done, (i, js) :: r => (match ops[i]? with
    | some o => dstOK n [o] && notSel o.op && dstNot o.dst (o.looksAt ops) && (o.after.toList.all fun e => !Region.binds .any e || done.contains e.on) && !done.contains i && (done.all fun j => pairOK P rc ops i o js j || lateOK rc ops i o r j)
    | none => false) && goOK P rc n ops (i :: done) r

def planOK (P : Program) (rc : Nat → Nat → Bool) (n : Nat) (ops : Array Oper) (plan : List (Nat × List Nat)) : Bool :=
  goOK P rc n ops [] plan && (List.range ops.size).all fun i => (plan.map (·.1)).contains i


def ancOf (M : List Nat) (i : Nat) (o : Oper) : Nat :=
  o.after.toList.foldl (fun s e => if Region.binds .any e && Nat.blt e.on i then s ||| (2 ^ e.on ||| M.getD e.on 0) else s) 0
def ancOK (M : List Nat) (ops : Array Oper) : Bool :=
  Nat.beq M.length ops.size && (List.range ops.size).all fun i => match ops[i]? with
    | some o => Nat.beq (M.getD i 0) (ancOf M i o)
    | none => false
def reachM (M : List Nat) (i j : Nat) : Bool := (M.getD i 0).testBit j
theorem reach_mono {ops : Array Oper} : ∀ {f g i j : Nat}, f ≤ g → reach ops f i j = true → reach ops g i j = true
  | 0, _, _, _, _, h => by simp [reach] at h
  | f + 1, 0, _, _, hg, _ => absurd hg (by omega)
  | f + 1, g + 1, i, j, hg, h => by
    simp only [reach] at h ⊢
    cases ho : ops[i]? with
    | none => simp [ho] at h
    | some o =>
      simp only [ho, List.any_eq_true, Bool.and_eq_true, Bool.or_eq_true, beq_iff_eq] at h ⊢
      obtain ⟨e, he, hb, hj⟩ := h
      exact ⟨e, he, hb, hj.imp id fun hj => reach_mono (by omega) hj⟩
theorem ancOf_spec {M : List Nat} {i j : Nat} : ∀ (l : List Edge) (s : Nat), (l.foldl (fun s e => if Region.binds .any e && Nat.blt e.on i then s ||| (2 ^ e.on ||| M.getD e.on 0) else s) s).testBit j = true →
    s.testBit j = true ∨ ∃ e ∈ l, Region.binds .any e = true ∧ e.on < i ∧ (e.on = j ∨ (M.getD e.on 0).testBit j = true)
  | [], s, h => .inl h
  | e :: l, s, h => by
    rw [List.foldl_cons] at h
    rcases ancOf_spec l _ h with h | ⟨x, hx, h⟩
    · split at h
      · rename_i hb
        rw [Bool.and_eq_true] at hb
        have hlt : e.on < i := by
          have := hb.2
          rw [Nat.blt_eq] at this
          exact this
        simp only [Nat.testBit_or, Bool.or_eq_true, Nat.testBit_two_pow, decide_eq_true_eq] at h
        rcases h with h | h | h
        · exact .inl h
        · exact .inr ⟨e, List.mem_cons_self .., hb.1, hlt, .inl h⟩
        · exact .inr ⟨e, List.mem_cons_self .., hb.1, hlt, .inr h⟩
      · exact .inl h
    · exact .inr ⟨x, List.mem_cons_of_mem _ hx, h⟩
theorem ancOK_spec {M : List Nat} {ops : Array Oper} (h : ancOK M ops = true) : ∀ i j, reachM M i j = true → reach ops (i + 1) i j = true := by
  simp only [ancOK, Bool.and_eq_true] at h
  obtain ⟨h0, h1⟩ := h
  have h0 : M.length = ops.size := Nat.eq_of_beq_eq_true h0
  intro i
  induction i using Nat.strongRecOn with
  | _ i ih =>
    intro j hj
    by_cases hi : i < ops.size
    · have h2 := List.all_eq_true.1 h1 i (List.mem_range.2 hi)
      have ho : ops[i]? = some ops[i] := by simp [hi]
      rw [ho] at h2
      have h2 : M.getD i 0 = ancOf M i ops[i] := Nat.eq_of_beq_eq_true h2
      unfold reachM at hj
      rw [h2] at hj
      rcases ancOf_spec _ _ hj with hj | ⟨e, he, hb, hlt, hj⟩
      · simp at hj
      · simp only [reach, ho, List.any_eq_true, Bool.and_eq_true, Bool.or_eq_true, beq_iff_eq]
        refine ⟨e, he, hb, hj.imp id fun hj => ?_⟩
        exact reach_mono (by omega) (ih e.on hlt j hj)
    · unfold reachM at hj
      rw [List.getD_eq_getElem?_getD, List.getElem?_eq_none (by omega)] at hj
      simp at hj
theorem reachM_reach {M : List Nat} {ops : Array Oper} (h : ancOK M ops = true) (i j : Nat) (hr : reachM M i j = true) : reach ops (ops.size + 1) i j = true := by
  by_cases hi : i < ops.size
  · exact reach_mono (by omega) (ancOK_spec h i j hr)
  · have := ancOK_spec h i j hr
    simp [reach, hi] at this

def planB (P : Program) (n : Nat) (ops : Array Oper) (M : List Nat) (plan : List (Nat × List Nat)) : Bool := match M with
  | [] => planOK P (reach ops 4) n ops plan
  | _ => ancOK M ops && planOK P (reachM M) n ops plan
theorem planB_spec {n : Nat} {ops : Array Oper} {M : List Nat} {plan : List (Nat × List Nat)} (h : planB P n ops M plan = true) :
    ∃ rc f, (∀ i j, rc i j = true → reach ops f i j = true) ∧ planOK P rc n ops plan = true := by
  unfold planB at h
  split at h
  · exact ⟨_, 4, fun _ _ h => h, h⟩
  · rw [Bool.and_eq_true] at h
    exact ⟨_, _, reachM_reach h.1, h.2⟩

def stillAt (d : Option Nat) (s s' : PS) : Prop := match d with
  | none => True
  | some d => s'.sl d = s.sl d


def again (P : Program) (ops : Array Oper) : List Nat → PS → Prop
  | [], _ => True
  | j :: r, s => (match ops[j]? with
    | some o => pOps P ops (stillAt o.dst s) [o] s
    | none => False) ∧ again P ops r s


def pD (P : Program) (ops : Array Oper) (K : PS → Prop) : List (Nat × List Nat) → PS → Prop
  | [], st => K st
  | (i, js) :: r, st => match ops[i]? with
    | some o => pOps P ops (fun s => again P ops js s ∧ pD P ops K r s) [o] st
    | none => False


section
variable {ops : Array Oper}

theorem get_put {a : Act} {d : Option Tmp} {v : Value} {t : Tmp} (h : d ≠ some t) : (a.put d v).tmps[t]? = a.tmps[t]? := by
  cases d with
  | none => rfl
  | some d =>
    simp only [Act.put]
    rw [Array.getElem?_setIfInBounds_ne (fun e => h (by rw [e]))]

theorem get_put_self {a : Act} {t : Tmp} {v : Value} (h : t < a.tmps.size) : (a.put (some t) v).tmps[t]? = some v := by
  simp [Act.put, h]

theorem defers_put (a : Act) (d : Option Tmp) (v : Value) : (a.put d v).defers = a.defers := by cases d <;> rfl
theorem size_put (a : Act) (d : Option Tmp) (v : Value) : (a.put d v).tmps.size = a.tmps.size := by cases d <;> simp [Act.put]

theorem look_exec {o : Oper} (hs : notSel o.op = true) {a A : Act} (h : ∀ t ∈ o.looksAt ops, a.tmps[t]? = A.tmps[t]?) :
    execOp a.eval o = execOp A.eval o ∧ Region.wanted o (yielded ops a.tmps) = Region.wanted o (yielded ops A.tmps) := by
  constructor
  · refine execOp_congr o (notSel_spec hs) fun x hx => ?_
    cases x with
    | tmp t =>
      have := h t (List.mem_append_left _ (List.mem_filterMap.2 ⟨.tmp t, by simpa using hx, rfl⟩))
      simp only [Act.eval]
      rw [Array.getD_eq_getD_getElem?, Array.getD_eq_getD_getElem?, this]
    | _ => rfl
  · unfold Region.wanted
    cases hg : o.guard with
    | none => rfl
    | some jw =>
      obtain ⟨j, want⟩ := jw
      simp only []
      have : yielded ops a.tmps j = yielded ops A.tmps j := by
        unfold yielded
        cases hd : (ops[j]?).bind (·.dst) with
        | none => rfl
        | some d =>
          have := h d (List.mem_append_right _ (by simp [hg, hd]))
          simp only [Option.bind_some, this]
      rw [this]

theorem wp_shape {o : Oper} {a A : Act} {w : World} {K K' : Act → World → Prop} {Q : Exit → Act → World → Prop} (he : execOp a.eval o = execOp A.eval o)
    (h : o.wp P A w K (fun _ _ _ => False)) (hk : ∀ u w', K (A.put o.dst u) w' → K' (a.put o.dst u) w') (hdf : ∀ A' w', K A' w' → A'.defers = []) : o.wp P a w K' Q := by
  unfold Oper.wp at *
  rw [he]
  generalize (execOp A.eval o).run P w = r at *
  cases r with
  | ok n w' =>
    cases n <;> simp only [Oper.upon] at h ⊢
    case value v => exact hk _ _ h
    case skip => exact hk _ _ h
    case defer d =>
      have := hdf _ _ h
      rw [defers_put] at this
      simp at this
    case enter f args =>
      refine Calls.mono h fun e w'' he => ?_
      cases e with
      | returned v => exact hk _ _ he
      | panicked c => exact he.elim
      | outgrown => obtain ⟨_, _, h⟩ := he; exact h.elim
    case row r args => exact Rows.mono h fun _ _ he => hk _ _ he
  | halt x w' => cases x <;> simp only [Oper.upon] at h


def Yl (P : Program) (ops : Array Oper) (j : Nat) (A : Act) (w : World) : Prop :=
  ∃ o v, ops[j]? = some o ∧ ((Region.wanted o (yielded ops A.tmps) = true ∧ (execOp A.eval o).run P w = .ok (.value v) w) ∨ (Region.wanted o (yielded ops A.tmps) = false ∧ v = undef)) ∧
    ∀ d, o.dst = some d → A.tmps[d]? = some v


structure OpGood (P : Program) (f n : Nat) (ops : Array Oper) (pre : List Nat) (i : Nat) (js : List Nat) (post : List (Nat × List Nat)) (o : Oper) : Prop where
  at_ : ops[i]? = some o
  dst : ∀ x, o.dst = some x → x < n
  sel : notSel o.op = true
  self : ∀ d, o.dst = some d → d ∉ o.looksAt ops
  deps : ∀ e ∈ o.after.toList, Region.binds .any e = true → e.on ∈ pre
  fresh : i ∉ pre
  pair : ∀ j ∈ pre, ∃ oj, ops[j]? = some oj ∧ (∀ d, o.dst = some d → (d ∉ oj.looksAt ops ∨ (reach ops f i j = true ∧ (∀ k ∈ post.map (·.1), reach ops f k j = true) ∧ floB ops o = false)) ∧ oj.dst ≠ some d) ∧
    ((quietOp oj.op = true ∧ (∀ d, oj.dst = some d → d ∉ o.looksAt ops) ∧ (quietOp o.op = true ∨ j ∈ js)) ∨ reach ops f i j = true ∨ (floB ops o = true ∧ quietOp oj.op = false ∧ ∀ d, oj.dst = some d → d ∉ o.looksAt ops))

theorem goOK_spec {rc : Nat → Nat → Bool} {f n : Nat} (hrc : ∀ i j, rc i j = true → reach ops f i j = true) : ∀ (plan : List (Nat × List Nat)) (done : List Nat), goOK P rc n ops done plan = true →
    ∀ pre i js post, plan = pre ++ (i, js) :: post → ∃ o, OpGood P f n ops (done.reverse ++ pre.map (·.1)) i js post o
  | [], _, _, pre, i, js, post, e => by cases pre <;> simp at e
  | (i0, js0) :: r, done, h, pre, i, js, post, e => by
    simp only [goOK, Bool.and_eq_true] at h
    obtain ⟨h1, h2⟩ := h
    cases pre with
    | nil =>
      simp only [List.nil_append, List.cons.injEq, Prod.mk.injEq] at e
      obtain ⟨⟨rfl, rfl⟩, rfl⟩ := e
      cases ho : ops[i0]? with
      | none => simp [ho] at h1
      | some o =>
        simp only [ho, Bool.and_eq_true] at h1
        obtain ⟨⟨⟨⟨⟨h3, h4⟩, h5⟩, h6⟩, h7⟩, h8⟩ := h1
        refine ⟨o, ho, fun x hx => ?_, h4, fun d hd => ?_, fun e he hb => ?_, ?_, fun j hj => ?_⟩
        · simpa [dstOK, hx] using h3
        · simpa [dstNot, hd] using h5
        · have := List.all_eq_true.1 h6 e he
          simpa [hb] using this
        · simpa using h7
        · have hj' : j ∈ done := by simpa using hj
          have h8 := List.all_eq_true.1 h8 j hj'
          rw [Bool.or_eq_true] at h8
          rcases h8 with this | this
          · unfold pairOK at this
            cases hoj : ops[j]? with
            | none => simp [hoj] at this
            | some oj =>
              simp only [hoj, Bool.and_eq_true, Bool.or_eq_true] at this
              obtain ⟨⟨h9, h10⟩, h11⟩ := this
              refine ⟨oj, rfl, fun d hd => ⟨.inl (by simpa [dstNot, hd] using h9), by simpa [dstNe, hd] using h10⟩, ?_⟩
              rcases h11 with (⟨⟨h12, h13⟩, h14⟩ | h11) | h11
              · exact .inl ⟨h12, fun d hd => by simpa [dstNot, hd] using h13, by simpa using h14⟩
              · exact .inr (.inl (hrc _ _ h11))
              · obtain ⟨⟨h12, h13⟩, h14⟩ := h11
                exact .inr (.inr ⟨h12, by simpa using h13, fun d hd => by simpa [dstNot, hd] using h14⟩)
          · unfold lateOK at this
            cases hoj : ops[j]? with
            | none => simp [hoj] at this
            | some oj =>
              simp only [hoj, Bool.and_eq_true] at this
              obtain ⟨⟨h9, h10, h11⟩, h12⟩ := this
              refine ⟨oj, rfl, fun d hd => ⟨.inr ⟨hrc _ _ h10, fun k hk => ?_, by simpa using h12⟩, by simpa [dstNe, hd] using h9⟩, .inr (.inl (hrc _ _ h10))⟩
              obtain ⟨y, hy, rfl⟩ := List.mem_map.1 hk
              exact hrc _ _ (List.all_eq_true.1 h11 y hy)
    | cons x pre =>
      simp only [List.cons_append, List.cons.injEq] at e
      obtain ⟨rfl, rfl⟩ := e
      obtain ⟨o, ho⟩ := goOK_spec hrc _ (i0 :: done) h2 pre i js post rfl
      refine ⟨o, ?_⟩
      simpa using ho


def Un (listed : Array Bool) (i : Nat) : Prop := listed[i]? = some false

theorem Un.set {listed : Array Bool} {i j : Nat} : Un (listed.setIfInBounds i true) j ↔ Un listed j ∧ j ≠ i := by
  unfold Un
  by_cases h : j = i
  · subst h
    by_cases hj : j < listed.size <;> simp [Array.getElem?_setIfInBounds, hj]
  · rw [Array.getElem?_setIfInBounds_ne (Ne.symm h)]; simp [h]


def Down (ops : Array Oper) (listed : Array Bool) : Prop :=
  ∀ i o, ops[i]? = some o → ¬ Un listed i → ∀ e ∈ o.after.toList, Region.binds .any e = true → ¬ Un listed e.on

theorem reach_down {listed : Array Bool} (hd : Down ops listed) : ∀ (f i j : Nat), (∀ o, ops[i]? = some o → ∀ e ∈ o.after.toList, Region.binds .any e = true → ¬ Un listed e.on) → reach ops f i j = true → ¬ Un listed j
  | 0, _, _, _, h => by simp [reach] at h
  | f + 1, i, j, hi, h => by
    simp only [reach] at h
    cases ho : ops[i]? with
    | none => simp [ho] at h
    | some o =>
      simp only [ho, List.any_eq_true, Bool.and_eq_true, Bool.or_eq_true, beq_iff_eq] at h
      obtain ⟨e, he, hb, hj⟩ := h
      have h1 := hi o ho e he hb
      rcases hj with rfl | hj
      · exact h1
      · exact reach_down hd f e.on j (fun o ho => hd _ _ ho h1) hj

theorem Yl.put {c : Cx} {j : Nat} {A : Act} {w : World} (h : Yl P ops j A w) {d : Option Tmp} {u : Value} (hsel : ∀ o, ops[j]? = some o → notSel o.op = true)
    (hd : ∀ o, ops[j]? = some o → ∀ x, d = some x → x ∉ o.looksAt ops ∧ o.dst ≠ some x) : Yl P ops j (A.put d u) w := by
  obtain ⟨o, v, ho, hv, hg⟩ := h
  have h' := look_exec (ops := ops) (hsel o ho) (a := A.put d u) (A := A) fun t ht => get_put fun e => (hd o ho t e).1 ht
  refine ⟨o, v, ho, by rw [h'.1, h'.2]; exact hv, fun x hx => ?_⟩
  rw [get_put fun e => (hd o ho x e).2 hx]; exact hg x hx


theorem quiet_pOp {o : Oper} {K : PS → Prop} {st : PS} (hq : quietOp o.op = true) {p : PV} (hv : qv P st o.op = some p) (h : K (st.put o.dst p)) : pOp P o K st := by
  obtain ⟨dst, op, ty, pos, aft, g⟩ := o
  cases op <;> simp only [quietOp, Bool.false_eq_true] at hq
  case call c =>
    obtain ⟨callee, args, tys⟩ := c
    cases callee with
    | builtin b => cases b <;> simp only [Bool.false_eq_true] at hq <;> exact ⟨p, hv, h⟩
    | value f => simp at hq
    | invoke r m => simp at hq
  all_goals exact ⟨p, hv, h⟩
theorem ev_put {st : PS} {d : Option Nat} {p : PV} {x : Operand} (h : ∀ t, x = .tmp t → d ≠ some t) : (st.put d p).ev x = st.ev x := by
  cases x with
  | tmp t =>
    cases d with
    | none => rfl
    | some d =>
      simp only [PS.put, PS.ev]
      exact upd_ne _ _ fun e => h t rfl (by rw [e])
  | const v => cases d <;> rfl
  | global g => cases d <;> rfl
  | func f => cases d <;> rfl
theorem sl_put {st : PS} {d : Option Nat} {p : PV} {t : Nat} (h : d ≠ some t) : (st.put d p).sl t = st.sl t := by
  cases d with
  | none => rfl
  | some d =>
    simp only [PS.put]
    exact upd_ne _ _ fun e => h (by rw [e])
theorem H_put (st : PS) (d : Option Nat) (p : PV) : (st.put d p).H = st.H := by cases d <;> rfl
theorem stillAt_put {st : PS} {d e : Option Nat} {p q : PV} (h : ∀ x, d = some x → e ≠ some x) (hs : stillAt e st (st.put e q)) : stillAt e (st.put d p) ((st.put d p).put e q) := by
  cases e with
  | none => trivial
  | some x =>
    simp only [stillAt, PS.put, upd_self] at hs ⊢
    cases d with
    | none => simpa [PS.put, upd_self] using hs
    | some y =>
      have hne : x ≠ y := fun he => h y rfl (by rw [he])
      simp only [PS.put, upd_self]
      rw [upd_ne _ _ hne]; exact hs
theorem qv_put {st : PS} {d : Option Nat} {p : PV} {o : Oper} (h : ∀ x, d = some x → x ∉ o.looksAt ops) : qv P (st.put d p) o.op = qv P st o.op :=
  qv_congr (H_put st d p) fun x hx => ev_put fun t e hd => h t hd (List.mem_append_left _ (List.mem_filterMap.2 ⟨x, by simpa using hx, by rw [e]⟩))
theorem guard_put {st : PS} {d : Option Nat} {p : PV} {o : Oper} {r s r' s' : Prop} (h : ∀ x, d = some x → x ∉ o.looksAt ops) (hg : pGuard ops st o r s) (hr : r → r') (hs : s → s') : pGuard ops (st.put d p) o r' s' := by
  unfold pGuard at hg ⊢
  cases e : o.guard with
  | none => simp only [e] at hg; exact hr hg
  | some jw =>
    obtain ⟨j, want⟩ := jw
    simp only [e] at hg
    (try simp only [])
    split at hg
    · exact hg.elim
    · rename_i g hgd
      (try simp only [hgd])
      rw [sl_put fun hd => h g hd (List.mem_append_right _ (by simp [e, hgd]))]
      split at hg
      · rename_i x hx; (try simp only [hx]); exact ⟨fun hb => hr (hg.1 hb), fun hb => hs (hg.2 hb)⟩
      · rename_i x hx; (try simp only [hx]); exact hs hg
      · exact hg.elim

theorem ag_put {o : Oper} (hq : quietOp o.op = true) {st : PS} {d : Option Nat} {p : PV} (hd : ∀ x, d = some x → x ∉ o.looksAt ops ∧ o.dst ≠ some x) (h : pOps P ops (stillAt o.dst st) [o] st) :
    pOps P ops (stillAt o.dst (st.put d p)) [o] (st.put d p) := by
  refine guard_put (fun x hx => (hd x hx).1) h (fun hr => ?_) fun hs => ?_
  · obtain ⟨q, hv, hk⟩ := pOp_quiet hq hr
    exact quiet_pOp hq ((qv_put fun x hx => (hd x hx).1).trans hv) (stillAt_put (fun x hx => (hd x hx).2) hk)
  · exact stillAt_put (fun x hx => (hd x hx).2) hs
theorem stillAt_self (st : PS) (d : Option Nat) (p : PV) : stillAt d (st.put d p) ((st.put d p).put d p) := by
  cases d with
  | none => trivial
  | some d => simp only [stillAt, PS.put, upd_self]


theorem absorb {c : Cx} {o : Oper} {i : Nat} (ho : ops[i]? = some o) (hq : quietOp o.op = true) (hsel : notSel o.op = true) (hd : ∀ x, o.dst = some x → x < c.n) (hself : ∀ d, o.dst = some d → d ∉ o.looksAt ops)
    {K : PS → Prop} {st : PS} {A : Act} {w : World} (hR : R c st A w) (hp : pOps P ops K [o] st) : ∃ v p, K (st.put o.dst p) ∧ R c (st.put o.dst p) (A.put o.dst v) w ∧ Yl P ops i (A.put o.dst v) w ∧
      pOps P ops (stillAt o.dst (st.put o.dst p)) [o] (st.put o.dst p) := by
  have hsz : A.tmps.size = c.n := by obtain ⟨ρ, h⟩ := hR; exact h.size
  have look : ∀ v, execOp (A.put o.dst v).eval o = execOp A.eval o ∧ Region.wanted o (yielded ops (A.put o.dst v).tmps) = Region.wanted o (yielded ops A.tmps) := fun v =>
    look_exec (ops := ops) hsel fun t ht => get_put fun e => hself t e ht
  have slot : ∀ v d, o.dst = some d → (A.put o.dst v).tmps[d]? = some v := fun v d e => by
    rw [e]; exact get_put_self (by rw [hsz]; exact hd d e)
  
  have hboth : (∃ p, qv P st o.op = some p ∧ K (st.put o.dst p) ∧ Region.wanted o (yielded ops A.tmps) = true ∧ pGuard ops st o True False) ∨ (K (st.put o.dst (.val undef)) ∧ Region.wanted o (yielded ops A.tmps) = false ∧ pGuard ops st o False True) := by
    have hp2 : pGuard ops st o ((pOp P o K st) ∧ pGuard ops st o True False) (K (st.put o.dst (.val undef)) ∧ pGuard ops st o False True) := by
      have hp : pGuard ops st o (pOp P o K st) (K (st.put o.dst (.val undef))) := hp
      unfold pGuard at hp ⊢
      split at hp
      · rename_i e; simp only [e]; exact ⟨hp, trivial⟩
      · rename_i j want e
        simp only [e]
        split at hp
        · exact hp.elim
        · rename_i g hgd
          simp only [hgd]
          split at hp
          · rename_i x hx; simp only [hx]; exact ⟨fun hb => ⟨hp.1 hb, fun _ => trivial, fun hb' => hb' hb⟩, fun hb => ⟨hp.2 hb, fun hb' => hb hb', fun _ => trivial⟩⟩
          · rename_i x hx; simp only [hx]; exact ⟨hp, trivial⟩
          · exact hp.elim
    rcases guard_sound hR hp2 with ⟨hw, hrun, hg⟩ | ⟨hw, hskip, hg⟩
    · obtain ⟨p, hv, hK⟩ := pOp_quiet hq hrun
      exact .inl ⟨p, hv, hK, hw, hg⟩
    · exact .inr ⟨hskip, hw, hg⟩
  rcases hboth with ⟨p, hv, hK, hw, hg⟩ | ⟨hskip, hw, hg⟩
  · obtain ⟨ρ, h⟩ := hR
    obtain ⟨v, hv', hr⟩ := qv_sound h o hv
    refine ⟨v, p, hK, ⟨ρ, h.put hd hr⟩, ⟨o, v, ho, .inl ⟨by rw [(look v).2]; exact hw, by rw [(look v).1]; exact hv'⟩, slot v⟩, ?_⟩
    exact guard_put hself hg (fun _ => quiet_pOp hq ((qv_put hself).trans hv) (stillAt_self _ _ _)) fun h => h.elim
  · refine ⟨undef, .val undef, hskip, hR.put hd undef, ⟨o, undef, ho, .inr ⟨by rw [(look _).2]; exact hw, rfl⟩, slot _⟩, ?_⟩
    exact guard_put hself hg (fun h => h.elim) fun _ => stillAt_self _ _ _

theorem again_mem : ∀ {js : List Nat} {s : PS}, again P ops js s → ∀ j ∈ js, ∃ o, ops[j]? = some o ∧ pOps P ops (stillAt o.dst s) [o] s
  | [], _, _, j, hj => by simp at hj
  | k :: r, s, h, j, hj => by
    simp only [again] at h
    rcases List.mem_cons.1 hj with rfl | hj
    · have := h.1
      split at this
      · rename_i o ho; exact ⟨o, ho, this⟩
      · exact this.elim
    · exact again_mem h.2 j hj

theorem put_still {st : PS} {d : Option Nat} {p : PV} (h : stillAt d st (st.put d p)) : st.put d p = st := by
  cases d with
  | none => rfl
  | some d =>
    simp only [stillAt, PS.put] at h
    rw [upd_self] at h
    subst h
    show { st with sl := upd st.sl d (st.sl d) } = st
    have : upd st.sl d (st.sl d) = st.sl := by
      funext t
      by_cases ht : t = d
      · subst ht; rw [upd_self]
      · rw [upd_ne _ _ ht]
    rw [this]


theorem reval {c : Cx} {st : PS} {w : World} {U : Nat → Prop} : ∀ (D1 D0 : List Nat) (A : Act), R c st A w → (∀ j ∈ D0, U j → Yl P ops j A w) →
    (∀ pre j post, D1 = pre ++ j :: post → U j → ∃ o, ops[j]? = some o ∧ quietOp o.op = true ∧ notSel o.op = true ∧ (∀ x, o.dst = some x → x < c.n) ∧ (∀ d, o.dst = some d → d ∉ o.looksAt ops) ∧
      pOps P ops (stillAt o.dst st) [o] st ∧ ∀ k ∈ D0 ++ pre, U k → ∀ ok, ops[k]? = some ok → notSel ok.op = true ∧ ∀ d, o.dst = some d → d ∉ ok.looksAt ops ∧ ok.dst ≠ some d) →
    ∃ A', R c st A' w ∧ (∀ j ∈ D0 ++ D1, U j → Yl P ops j A' w) ∧ A'.defers = A.defers ∧ A'.tmps.size = A.tmps.size ∧
      ∀ t, (∀ j ∈ D1, U j → ∀ o, ops[j]? = some o → o.dst ≠ some t) → A'.tmps[t]? = A.tmps[t]?
  | [], D0, A, hR, h0, _ => ⟨A, hR, by simpa using h0, rfl, rfl, fun _ _ => rfl⟩
  | j :: D1, D0, A, hR, h0, h1 => by
    by_cases hU : U j
    · obtain ⟨o, ho, hq, hsel, hd, hself, hp, hk⟩ := h1 [] j D1 rfl hU
      obtain ⟨v, p, hs, hR', hy, _⟩ := absorb ho hq hsel hd hself hR hp
      rw [put_still hs] at hR'
      obtain ⟨A', hR2, hY2, e1, e2, e3⟩ := reval D1 (D0 ++ [j]) (A.put o.dst v) hR' (fun k hk' hUk => by
          rcases List.mem_append.1 hk' with hk' | hk'
          · exact Yl.put (c := c) (h0 k hk' hUk) (fun ok hok => (hk k (by simp [hk']) hUk ok hok).1) fun ok hok x hx => (hk k (by simp [hk']) hUk ok hok).2 x hx
          · simp at hk'; subst hk'; exact hy) (fun pre k post e hUk => by
          obtain ⟨o', g1, g2, g3, g4, g5, g6, g7⟩ := h1 (j :: pre) k post (by rw [e]; rfl) hUk
          exact ⟨o', g1, g2, g3, g4, g5, g6, fun k' hk' => g7 k' (by simpa using hk')⟩)
      refine ⟨A', hR2, by simpa using hY2, by rw [e1, defers_put], by rw [e2, size_put], fun t ht => ?_⟩
      rw [e3 t fun k hk' => ht k (by simp [hk'])]
      exact get_put (ht j (by simp) hU o ho)
    · obtain ⟨A', hR2, hY2, e1, e2, e3⟩ := reval D1 (D0 ++ [j]) A hR (fun k hk' hUk => by
          rcases List.mem_append.1 hk' with hk' | hk'
          · exact h0 k hk' hUk
          · simp at hk'; subst hk'; exact absurd hUk hU) (fun pre k post e hUk => by
          obtain ⟨o', g1, g2, g3, g4, g5, g6, g7⟩ := h1 (j :: pre) k post (by rw [e]; rfl) hUk
          exact ⟨o', g1, g2, g3, g4, g5, g6, fun k' hk' => g7 k' (by simpa using hk')⟩)
      exact ⟨A', hR2, by simpa using hY2, e1, e2, fun t ht => e3 t fun k hk' => ht k (by simp [hk'])⟩

theorem floB_may {o : Oper} (h : floB ops o = true) : mayFlo o = true := by
  simp only [floB, Bool.and_eq_true] at h; exact h.1
theorem mayFlo_spec {o : Oper} (h : mayFlo o = true) : o.guard = none ∧ quietOp o.op = false := by
  simp only [mayFlo, Bool.and_eq_true, Option.isNone_iff_eq_none] at h
  refine ⟨h.1, ?_⟩
  have := h.2
  split at this
  · rename_i e; rw [e]; rfl
  · rename_i e; rw [e]; rfl
  · simp at this

theorem floB_slots {o : Oper} (h : floB ops o = true) {t : Tmp} (ht : t ∈ o.looksAt ops) {j : Nat} {oj : Oper} (hj : ops[j]? = some oj) (hf : mayFlo oj = true) : oj.dst ≠ some t := by
  have hg := (mayFlo_spec (floB_may h)).1
  simp only [floB, Bool.and_eq_true] at h
  unfold Oper.looksAt at ht
  rw [hg] at ht
  simp only [List.append_nil, List.mem_filterMap] at ht
  obtain ⟨x, hx, hxt⟩ := ht
  have h2 := List.all_eq_true.1 h.2 x hx
  cases x with
  | tmp u =>
    obtain rfl : u = t := by simpa using hxt
    simp only [floP] at h2
    have h3 := List.all_eq_true.1 h2 oj (by
      rw [← Array.getElem?_toList] at hj
      exact List.mem_of_getElem? hj)
    intro e
    simp [e, hf] at h3
  | _ => simp at hxt
theorem looks_of {o : Oper} {x : Operand} {t : Tmp} (hx : x ∈ o.op.operands.toList) (e : x = .tmp t) : t ∈ o.looksAt ops :=
  List.mem_append_left _ (List.mem_filterMap.2 ⟨x, by simpa using hx, by rw [e]⟩)
theorem eval_of {a A : Act} {o : Oper} (h : ∀ t ∈ o.looksAt ops, a.tmps[t]? = A.tmps[t]?) : ∀ x ∈ o.op.operands.toList, a.eval x = A.eval x := by
  intro x hx
  cases x with
  | tmp t =>
    have := h t (looks_of hx rfl)
    simp only [Act.eval]
    rw [Array.getD_eq_getD_getElem?, Array.getD_eq_getD_getElem?, this]
  | _ => rfl

structure Flo (P : Program) (o : Oper) (ev : Operand → Value) (vs : Array Value) (te : TypeId) (mv : Nat → Value) (mp : Nat → PV) : Prop where
  run : ∀ w : World, (execOp ev o).run P w = .ok (.value (mv w.heap.size)) { w with heap := w.heap.push (.cells vs te (0, 0)) }
  walk : ∀ (c : Cx) (st : PS) (a : Act) (w : World) (ρ : Nat → Nat) (K : PS → Prop), Rr c st a w ρ → (∀ x ∈ o.op.operands.toList, a.eval x = ev x) → pOp P o K st → ∃ cs, RepL (enOf c.A0 w ρ st.H st.it st.nx) cs vs.toList ∧ K ((st.new cs).put o.dst (mp st.nx))
  rep : ∀ (E : En) (i b : Nat), i < E.nx → E.ρ i = b → Rep E (mp i) (mv b)
theorem floB_spec {o : Oper} (h : floB ops o = true) {c : Cx} {st : PS} {a : Act} {w : World} (hR : R c st a w) {K : PS → Prop} (hp : pOp P o K st) :
    ∃ (vs : Array Value) (te : TypeId) (mv : Nat → Value) (mp : Nat → PV), Flo P o a.eval vs te mv mp := by
  obtain ⟨ρ, hr⟩ := hR
  have h := floB_may h
  simp only [mayFlo, Bool.and_eq_true, Option.isNone_iff_eq_none] at h
  obtain ⟨hg, h⟩ := h
  split at h
  · rename_i e ho
    unfold pOp at hp
    rw [ho] at hp
    obtain ⟨z, hz, hK⟩ := hp
    refine ⟨z.toArray, e, fun b => .pointer (some ⟨b, 0, none⟩), fun i => .ptr i 0, fun w => ?_, fun c st a w ρ K _ _ hp => ?_, fun E i b h1 h2 => ?_⟩
    · obtain ⟨v, hv, rfl⟩ := zeroT_run hz w
      simp [execOp, ho, Instr.alloc, hv, newVar, newRow]
    · unfold pOp at hp
      rw [ho] at hp
      obtain ⟨z', hz', hK⟩ := hp
      rw [hz] at hz'
      obtain rfl := Option.some.inj hz'
      exact ⟨_, by simpa using RepL.vals z, hK⟩
    · simp only [Rep]; exact ⟨h1, by rw [h2]⟩
  · rename_i t n parts ho
    unfold pOp at hp
    rw [ho] at hp
    obtain ⟨e, he, sz, hs, hbig0, z, hz, hzl, cs, hf, hK⟩ := hp
    have h0 : RepL (enOf c.A0 w ρ st.H st.it st.nx) (repl n (z.map .val)) (repl n z) := by rw [repl_map]; exact RepL.vals _
    obtain ⟨us, hfill, hus⟩ := fillP_sound hr parts.toList _ _ cs h0 hf
    have hops : ∀ x ∈ parts.toList.map (·.2), x ∈ o.op.operands.toList := fun x hx => by
      rw [ho]
      simp only [Op.operands]
      simpa using hx
    refine ⟨us.toArray, e, fun b => .slice (some ⟨b, 0, none⟩) n n, fun i => .ref i 0 n n sz, fun w => ?_, fun c2 st2 a2 w2 ρ2 K2 hr2 hev hp2 => ?_, fun E i b h1 h2 => ?_⟩
    · obtain ⟨v, hv, rfl⟩ := zeroT_run hz w
      have hmade : (madeCells v.cells (n * sz)).toList = repl n v.cells.toList := made_eq (by simpa using hzl) n
      have hp : (parts.map fun (i, x) => (i, a.eval x)).toList = parts.toList.map fun p => (p.1, a.eval p.2) := by simp
      have hbig : ¬ (n * sz > 2 ^ 24) := by omega
      rw [← hmade, show (madeCells v.cells (n * sz)).toList.toArray = madeCells v.cells (n * sz) from by simp] at hfill
      simp only [execOp, ho]
      apply run_val
      simp only [Instr.buildSlice, Sem.run_bind, run_underlying (elemT_some he), Result.andThen_ok, sizeT_some hs, if_neg hbig, hp]
      by_cases hn : n * sz = 0
      · have e0 : madeCells v.cells (n * sz) = (Array.range (n * sz)).map fun i => (#[] : Array Value)[i % (#[] : Array Value).size]! := by
          rw [hn]; simp [madeCells]
        rw [e0] at hfill
        simp only [hn, if_true, Sem.run_pure, Result.andThen_ok, Sem.run_bind] at hfill ⊢
        rw [hfill]
        simp [newRow]
      · simp only [if_neg hn, Sem.run_bind, hv, Result.andThen_ok, Sem.run_pure]
        unfold madeCells at hfill
        rw [hfill]
        simp [newRow]
    · unfold pOp at hp2
      rw [ho] at hp2
      obtain ⟨e', he', sz', hs', _, z', hz', _, cs', hf', hK'⟩ := hp2
      rw [he] at he'; obtain rfl := Option.some.inj he'
      rw [hs] at hs'; obtain rfl := Option.some.inj hs'
      rw [hz] at hz'; obtain rfl := Option.some.inj hz'
      have h0' : RepL (enOf c2.A0 w2 ρ2 st2.H st2.it st2.nx) (repl n (z.map .val)) (repl n z) := by rw [repl_map]; exact RepL.vals _
      obtain ⟨us', hfill', hus'⟩ := fillP_sound hr2 parts.toList _ _ cs' h0' hf'
      have hpe : (parts.toList.map fun p => (p.1, a2.eval p.2)) = parts.toList.map fun p => (p.1, a.eval p.2) := List.map_congr_left fun p hp => by
        rw [hev p.2 (hops _ (List.mem_map_of_mem hp))]
      rw [hpe, hfill] at hfill'
      have hee : us.toArray = us'.toArray := Option.some.inj hfill'
      refine ⟨cs', ?_, hK'⟩
      have : us = us' := by simpa using congrArg Array.toList hee
      rw [this]; exact hus'
    · simp only [Rep]; exact ⟨h1, Nat.le_refl _, .inl (by rw [h2])⟩
  · simp at h


theorem sim_one {c : Cx} {o : Oper} {K : PS → Prop} {st : PS} {A : Act} {w : World} (hd : ∀ x, o.dst = some x → x < c.n) (hR : R c st A w) (hp : pOps P ops K [o] st) :
    ∃ st' A' w', K st' ∧ R c st' A' w' ∧ ∀ t, o.dst ≠ some t → A'.tmps[t]? = A.tmps[t]? := by
  have hp : pGuard ops st o (pOp P o K st) (K (st.put o.dst (.val undef))) := hp
  rcases guard_sound hR hp with ⟨_, hrun⟩ | ⟨_, hskip⟩
  · have hw := op_sound (Q := fun _ _ _ => False) hR hd hrun
    unfold Oper.wp at hw
    have fin : ∀ u w', Nx c K (A.put o.dst u) w' → ∃ st' A' w', K st' ∧ R c st' A' w' ∧ ∀ t, o.dst ≠ some t → A'.tmps[t]? = A.tmps[t]? := by
      rintro u w' ⟨st', hk, hr⟩
      exact ⟨st', _, w', hk, hr, fun t ht => get_put ht⟩
    generalize (execOp A.eval o).run P w = r at hw
    cases r with
    | ok n w' =>
      cases n <;> simp only [Oper.upon] at hw
      case value v => exact fin _ _ hw
      case skip => exact fin _ _ hw
      case defer d =>
        obtain ⟨st', _, ρ, hr⟩ := hw
        have := hr.defers
        rw [defers_put] at this
        simp at this
      case enter f args =>
        obtain ⟨e, w'', fr, he, _⟩ := hw []
        cases e with
        | returned v => exact fin _ _ he
        | panicked c => exact he.elim
        | outgrown => obtain ⟨_, _, h⟩ := he; exact h.elim
      case row r args =>
        obtain ⟨v, w'', he, _⟩ := hw (Frame.enter P 0 #[] .normal) []
        exact fin _ _ he
    | halt x w' => cases x <;> simp only [Oper.upon] at hw
  · exact ⟨_, A.put o.dst undef, w, hskip, hR.put hd undef, fun t ht => get_put ht⟩

theorem sim_upto {c : Cx} {K : PS → Prop} {L : List Tmp} {i : Nat} {js : List Nat} {post : List (Nat × List Nat)} : ∀ (pre : List (Nat × List Nat)) (st : PS) (A : Act) (w : World), R c st A w → pD P ops K (pre ++ (i, js) :: post) st →
    (∀ k ∈ pre.map (·.1), ∃ ok, ops[k]? = some ok ∧ (∀ x, ok.dst = some x → x < c.n) ∧ ∀ t ∈ L, ok.dst ≠ some t) → ∃ st' A' w', R c st' A' w' ∧ pD P ops K ((i, js) :: post) st' ∧ ∀ t ∈ L, A'.tmps[t]? = A.tmps[t]?
  | [], st, A, w, hR, hp, _ => ⟨st, A, w, hR, hp, fun _ _ => rfl⟩
  | (k, ks) :: pre, st, A, w, hR, hp, hk => by
    obtain ⟨ok, ho, hd, hL⟩ := hk k (by simp)
    simp only [List.cons_append, pD, ho] at hp
    obtain ⟨st1, A1, w1, ⟨_, hK⟩, hR1, h1⟩ := sim_one hd hR hp
    obtain ⟨st2, A2, w2, hR2, hp2, h2⟩ := sim_upto pre st1 A1 w1 hR1 hK fun k' hk' => hk k' (by simp only [List.map_cons, List.mem_cons]; exact .inr hk')
    exact ⟨st2, A2, w2, hR2, hp2, fun t ht => (h2 t ht).trans (h1 t (hL t ht))⟩


structure Ah (P : Program) (ops : Array Oper) (c cE : Cx) (E : List (Nat × Nat)) (a : Act) : Prop where
  n : cE.n = c.n
  k : cE.k = c.k
  ρ0 : cE.ρ0 = c.ρ0
  F : ∀ b, cE.F b ↔ c.F b ∨ ∃ j, (j, b) ∈ E
  A0 : ∀ b, cE.A0 b ↔ c.A0 b ∨ ∃ j, (j, b) ∈ E
  fr : ∀ b, c.F b → cE.w0.heap[b]? = c.w0.heap[b]?
  gr : c.w0.heap.size ≤ cE.w0.heap.size
  sw : Sw c.w0 cE.w0
  fF : ∀ b, c.F b → b < c.w0.heap.size
  fA : ∀ b, c.A0 b → b < c.w0.heap.size
  old : ∀ j b, (j, b) ∈ E → c.w0.heap.size ≤ b ∧ ∃ (o : Oper) (vs : Array Value) (te : TypeId) (mv : Nat → Value) (mp : Nat → PV) (ev : Operand → Value), ops[j]? = some o ∧ floB ops o = true ∧ Flo P o ev vs te mv mp ∧
    cE.w0.heap[b]? = some (.cells vs te (0, 0)) ∧ (∀ d, o.dst = some d → a.tmps[d]? = some (mv b)) ∧ ∀ x ∈ o.op.operands.toList, a.eval x = ev x
  inj : ∀ j j' b, (j, b) ∈ E → (j', b) ∈ E → j = j'
  fn : ∀ j b b', (j, b) ∈ E → (j, b') ∈ E → b = b'

theorem Ah.act {c cE : Cx} {E : List (Nat × Nat)} {a a' : Act} (h : Ah P ops c cE E a) (ha : ∀ j b, (j, b) ∈ E → ∀ o, ops[j]? = some o → floB ops o = true → (∀ d, o.dst = some d → a'.tmps[d]? = a.tmps[d]?) ∧ ∀ t ∈ o.looksAt ops, a'.tmps[t]? = a.tmps[t]?) : Ah P ops c cE E a' := by
  refine ⟨h.n, h.k, h.ρ0, h.F, h.A0, h.fr, h.gr, h.sw, h.fF, h.fA, fun j b hj => ?_, h.inj, h.fn⟩
  obtain ⟨h1, o, vs, te, mv, mp, ev, ho, h2, h3, h4, h5, h6⟩ := h.old j b hj
  obtain ⟨a1, a2⟩ := ha j b hj o ho h2
  exact ⟨h1, o, vs, te, mv, mp, ev, ho, h2, h3, h4, fun d hd => (a1 d hd).trans (h5 d hd), fun x hx => (eval_of a2 x hx).trans (h6 x hx)⟩

theorem Ah.add {c cE : Cx} {E : List (Nat × Nat)} {a A : Act} {st : PS} {w : World} (h : Ah P ops c cE E a) (hR : R cE st A w) {i : Nat} {o : Oper} (ho : ops[i]? = some o) (hi : ∀ b, (i, b) ∉ E)
    {vs : Array Value} {te : TypeId} {mv : Nat → Value} {mp : Nat → PV} {ev : Operand → Value} (h2 : floB ops o = true) (h3 : Flo P o ev vs te mv mp) (h4 : ∀ x ∈ o.op.operands.toList, a.eval x = ev x) (hself : ∀ d, o.dst = some d → d ∉ o.looksAt ops)
    (hd : ∀ d, o.dst = some d → d < a.tmps.size) (hne : ∀ j b, (j, b) ∈ E → ∀ oj, ops[j]? = some oj → ∀ d, o.dst = some d → oj.dst ≠ some d ∧ d ∉ oj.looksAt ops) {w1 : World} (hw : w1.heap = w.heap.push (.cells vs te (0, 0))) (hs : Sw w w1) :
    Ah P ops c (cE.plus w1 w.heap.size) ((i, w.heap.size) :: E) (a.put o.dst (mv w.heap.size)) := by
  obtain ⟨ρ, hr⟩ := hR
  have hsz : w1.heap.size = w.heap.size + 1 := by rw [hw]; simp
  have hold : ∀ b, b < w.heap.size → w1.heap[b]? = w.heap[b]? := fun b hb => by
    rw [hw, Array.getElem?_push]; simp [Nat.ne_of_lt hb]
  have hgr := h.gr
  have hgrow := hr.grow
  have hlt : ∀ j b, (j, b) ∈ E → b < w.heap.size := fun j b hj => by
    obtain ⟨_, o, vs, te, mv, mp, ev, _, _, _, h6, _⟩ := h.old j b hj
    have := lt_of_heap h6
    omega
  refine ⟨h.n, h.k, h.ρ0, fun b => ?_, fun b => ?_, fun b hb => ?_, ?_, h.sw.trans (hr.sw.trans hs), h.fF, h.fA, fun j b hj => ?_, fun j j' b hj hj' => ?_, fun j b b' hj hj' => ?_⟩
  · show (cE.F b ∨ b = _) ↔ _
    rw [h.F]
    constructor
    · rintro ((h1 | ⟨j, h1⟩) | h1)
      · exact .inl h1
      · exact .inr ⟨j, List.mem_cons_of_mem _ h1⟩
      · exact .inr ⟨i, by rw [h1]; exact List.mem_cons_self ..⟩
    · rintro (h1 | ⟨j, h1⟩)
      · exact .inl (.inl h1)
      · rcases List.mem_cons.1 h1 with h1 | h1
        · exact .inr (Prod.mk.inj h1).2
        · exact .inl (.inr ⟨j, h1⟩)
  · show (cE.A0 b ∨ b = _) ↔ _
    rw [h.A0]
    constructor
    · rintro ((h1 | ⟨j, h1⟩) | h1)
      · exact .inl h1
      · exact .inr ⟨j, List.mem_cons_of_mem _ h1⟩
      · exact .inr ⟨i, by rw [h1]; exact List.mem_cons_self ..⟩
    · rintro (h1 | ⟨j, h1⟩)
      · exact .inl (.inl h1)
      · rcases List.mem_cons.1 h1 with h1 | h1
        · exact .inr (Prod.mk.inj h1).2
        · exact .inl (.inr ⟨j, h1⟩)
  · show w1.heap[b]? = _
    have := h.fF b hb
    rw [hold b (by omega), hr.frame b ((h.F b).2 (.inl hb))]
    exact h.fr b hb
  · show _ ≤ w1.heap.size
    omega
  · rcases List.mem_cons.1 hj with hj | hj
    · obtain ⟨rfl, rfl⟩ := Prod.mk.inj hj
      refine ⟨by omega, o, vs, te, mv, mp, ev, ho, h2, h3, ?_, fun d hd' => ?_, fun x hx => ?_⟩
      · show w1.heap[w.heap.size]? = _
        rw [hw]; simp
      · rw [hd']; exact get_put_self (hd d hd')
      · rw [← h4 x hx]
        exact eval_of (fun t ht => get_put fun e => hself t e ht) x hx
    · obtain ⟨g1, o', vs', te', mv', mp', ev', ho', g2, g3, g6, g7, g8⟩ := h.old j b hj
      refine ⟨g1, o', vs', te', mv', mp', ev', ho', g2, g3, ?_, fun d hd' => ?_, fun x hx => ?_⟩
      · show w1.heap[b]? = _
        rw [hold b (hlt j b hj), hr.frame b ((h.F b).2 (.inr ⟨j, hj⟩))]; exact g6
      · rw [get_put]
        · exact g7 d hd'
        · exact fun e => (hne j b hj o' ho' d e).1 hd'
      · rw [← g8 x hx]
        exact eval_of (fun t ht => get_put fun e => (hne j b hj o' ho' t e).2 ht) x hx
  · rcases List.mem_cons.1 hj with e | hj <;> rcases List.mem_cons.1 hj' with e' | hj'
    · exact (Prod.mk.inj e).1.trans (Prod.mk.inj e').1.symm
    · have := hlt _ _ hj'; have := (Prod.mk.inj e).2; omega
    · have := hlt _ _ hj; have := (Prod.mk.inj e').2; omega
    · exact h.inj j j' b hj hj'
  · rcases List.mem_cons.1 hj with e | hj <;> rcases List.mem_cons.1 hj' with e' | hj'
    · exact (Prod.mk.inj e).2.trans (Prod.mk.inj e').2.symm
    · exact absurd ((Prod.mk.inj e).1 ▸ hj') (hi b')
    · exact absurd ((Prod.mk.inj e').1 ▸ hj) (hi b)
    · exact h.fn j b b' hj hj'


def drop1 (E : List (Nat × Nat)) (i : Nat) : List (Nat × Nat) := E.filter fun x => !(x.1 == i)
theorem mem_drop1 {E : List (Nat × Nat)} {i j b : Nat} : (j, b) ∈ drop1 E i ↔ (j, b) ∈ E ∧ j ≠ i := by
  simp [drop1]

theorem Ah.take {c cE : Cx} {E : List (Nat × Nat)} {a : Act} (h : Ah P ops c cE E a) {i b : Nat} (hi : (i, b) ∈ E) : Ah P ops c (cE.less b) (drop1 E i) a := by
  have hb := (h.old i b hi).1
  refine ⟨h.n, h.k, h.ρ0, fun x => ?_, fun x => ?_, h.fr, h.gr, h.sw, h.fF, h.fA, fun j b' hj => h.old j b' (mem_drop1.1 hj).1, fun j j' b' hj hj' => h.inj j j' b' (mem_drop1.1 hj).1 (mem_drop1.1 hj').1, fun j b' b'' hj hj' => h.fn j b' b'' (mem_drop1.1 hj).1 (mem_drop1.1 hj').1⟩
  · show (cE.F x ∧ x ≠ b) ↔ _
    rw [h.F]
    constructor
    · rintro ⟨h1 | ⟨j, h1⟩, h2⟩
      · exact .inl h1
      · exact .inr ⟨j, mem_drop1.2 ⟨h1, fun e => h2 (h.fn i x b (e ▸ h1) hi)⟩⟩
    · rintro (h1 | ⟨j, h1⟩)
      · exact ⟨.inl h1, fun e => by have := h.fF x h1; omega⟩
      · obtain ⟨h1, h2⟩ := mem_drop1.1 h1
        exact ⟨.inr ⟨j, h1⟩, fun e => h2 (h.inj j i b (e ▸ h1) hi)⟩
  · show (cE.A0 x ∧ x ≠ b) ↔ _
    rw [h.A0]
    constructor
    · rintro ⟨h1 | ⟨j, h1⟩, h2⟩
      · exact .inl h1
      · exact .inr ⟨j, mem_drop1.2 ⟨h1, fun e => h2 (h.fn i x b (e ▸ h1) hi)⟩⟩
    · rintro (h1 | ⟨j, h1⟩)
      · exact ⟨.inl h1, fun e => by have := h.fA x h1; omega⟩
      · obtain ⟨h1, h2⟩ := mem_drop1.1 h1
        exact ⟨.inr ⟨j, h1⟩, fun e => h2 (h.inj j i b (e ▸ h1) hi)⟩

theorem Ah.none {c : Cx} {a : Act} (fF : ∀ b, c.F b → b < c.w0.heap.size) (fA : ∀ b, c.A0 b → b < c.w0.heap.size) : Ah P ops c c [] a :=
  ⟨rfl, rfl, rfl, fun b => by simp, fun b => by simp, fun _ _ => rfl, Nat.le_refl _, Sw.refl _, fF, fA, fun j b hj => by simp at hj, fun j j' b hj => by simp at hj, fun j b b' hj => by simp at hj⟩
theorem Ah.end {c cE : Cx} {a A : Act} {st : PS} {w : World} (h : Ah P ops c cE [] a) (hR : R cE st A w) : R c st A w :=
  R.congr hR (fun b hb => (h.F b).2 (.inl hb)) (fun b => by rw [h.A0]; simp) h.k.symm h.ρ0.symm h.n.symm h.fr h.gr h.sw h.fF h.fA


structure Inv (P : Program) (f : Nat) (ops : Array Oper) (c cE : Cx) (E : List (Nat × Nat)) (K : PS → Prop) (plan D Lr : List (Nat × List Nat)) (listed : Array Bool) (a A : Act) (w : World) (st : PS) : Prop where
  split : plan = D ++ Lr
  size : listed.size = ops.size
  down : Down ops listed
  rest : ∀ x ∈ Lr, Un listed x.1 ∨ ∃ b, (x.1, b) ∈ E
  ear : ∀ j b, (j, b) ∈ E → j ∈ Lr.map (·.1) ∧ ¬ Un listed j
  wait : ∀ j ∈ D.map (·.1), Un listed j → (∃ o, ops[j]? = some o ∧ quietOp o.op = true ∧ pOps P ops (stillAt o.dst st) [o] st) ∧ Yl P ops j A w
  defers : a.defers = A.defers
  tsize : a.tmps.size = A.tmps.size
  agree : ∀ t, (∀ j ∈ D.map (·.1), Un listed j → ∀ o, ops[j]? = some o → o.dst ≠ some t) → (∀ j b, (j, b) ∈ E → ∀ o, ops[j]? = some o → o.dst ≠ some t) → a.tmps[t]? = A.tmps[t]?
  rep : R cE st A w
  ah : Ah P ops c cE E a
  walk : pD P ops K Lr st
  late : ∀ D1 x D2, D = D1 ++ x :: D2 → Un listed x.1 → ∀ j, reach ops f x.1 j = true → (∀ k ∈ (D2 ++ Lr).map (·.1), reach ops f k j = true) → ¬ Un listed j

section
variable {c cE : Cx} {E : List (Nat × Nat)} {K : PS → Prop} {plan D Lr : List (Nat × List Nat)} {listed : Array Bool} {a A : Act} {w : World} {st : PS} {f : Nat}


theorem dst_ne (hg : ∀ pre i js post, plan = pre ++ (i, js) :: post → ∃ o, OpGood P f c.n ops (pre.map (·.1)) i js post o) {i j : Nat} {oi oj : Oper} {d : Nat} (hi : i ∈ plan.map (·.1)) (hj : j ∈ plan.map (·.1)) (hij : i ≠ j)
    (ho : ops[i]? = some oi) (hoj : ops[j]? = some oj) (hd : oi.dst = some d) : oj.dst ≠ some d := by
  obtain ⟨y, hy1, hy2⟩ := List.mem_map.1 hi
  obtain ⟨pre, post, e⟩ := List.append_of_mem hy1
  obtain ⟨o, g⟩ := hg pre y.1 y.2 post e
  rw [hy2] at g
  obtain rfl : o = oi := Option.some.inj (g.at_.symm.trans ho)
  rw [e] at hj
  simp only [List.map_append, List.map_cons, List.mem_append, List.mem_cons] at hj
  rcases hj with hj | hj | hj
  · obtain ⟨ok, h1, h2, _⟩ := g.pair j hj
    obtain rfl : ok = oj := Option.some.inj (h1.symm.trans hoj)
    exact (h2 d hd).2
  · exact absurd (hy2.symm.trans hj.symm) hij
  · obtain ⟨z, hz1, hz2⟩ := List.mem_map.1 hj
    obtain ⟨p2, p3, e2⟩ := List.append_of_mem hz1
    obtain ⟨oz, gz⟩ := hg (pre ++ y :: p2) z.1 z.2 p3 (by rw [e, e2]; simp)
    rw [hz2] at gz
    obtain rfl : oz = oj := Option.some.inj (gz.at_.symm.trans hoj)
    obtain ⟨ok, h1, h2, _⟩ := gz.pair i (by simp [hy2])
    obtain rfl : ok = o := Option.some.inj (h1.symm.trans ho)
    exact fun hd' => (h2 d hd').2 hd


theorem early_looks (hg : ∀ pre i js post, plan = pre ++ (i, js) :: post → ∃ o, OpGood P f c.n ops (pre.map (·.1)) i js post o) (hdown : Down ops listed) {l1 l2 : List (Nat × List Nat)} {i j : Nat} {oi oj : Oper} {d : Nat}
    (hs : plan = l1 ++ l2) (hi : i ∈ l1.map (·.1)) (hj : j ∈ l2.map (·.1)) (ho : ops[i]? = some oi) (hoj : ops[j]? = some oj) (hU : Un listed i) (hn : ¬ Un listed j) (hd : oj.dst = some d) : d ∉ oi.looksAt ops := by
  obtain ⟨z, hz1, hz2⟩ := List.mem_map.1 hj
  obtain ⟨p2, p3, e2⟩ := List.append_of_mem hz1
  obtain ⟨oz, gz⟩ := hg (l1 ++ p2) z.1 z.2 p3 (by rw [hs, e2]; simp)
  rw [hz2] at gz
  obtain rfl : oz = oj := Option.some.inj (gz.at_.symm.trans hoj)
  obtain ⟨ok, h1, h2, _⟩ := gz.pair i (by rw [List.map_append, List.mem_append]; exact .inl hi)
  obtain rfl : ok = oi := Option.some.inj (h1.symm.trans ho)
  rcases (h2 d hd).1 with hx | ⟨hr, _⟩
  · exact hx
  · exact absurd hU (reach_down hdown f j i (fun o ho' e he hb => hdown j o ho' hn e he hb) hr)


theorem behind_looks (hg : ∀ pre i js post, plan = pre ++ (i, js) :: post → ∃ o, OpGood P f c.n ops (pre.map (·.1)) i js post o) (hdown : Down ops listed) {l1 l2 : List (Nat × List Nat)} {i j : Nat} {oi oj : Oper} {d : Nat}
    (hs : plan = l1 ++ l2) (hi : i ∈ l1.map (·.1)) (hj : j ∈ l2.map (·.1)) (ho : ops[i]? = some oi) (hoj : ops[j]? = some oj) (hU : Un listed i) (hn : ¬ Un listed j) (hd : oi.dst = some d) : d ∉ oj.looksAt ops := by
  obtain ⟨z, hz1, hz2⟩ := List.mem_map.1 hj
  obtain ⟨p2, p3, e2⟩ := List.append_of_mem hz1
  obtain ⟨oz, gz⟩ := hg (l1 ++ p2) z.1 z.2 p3 (by rw [hs, e2]; simp)
  rw [hz2] at gz
  obtain rfl : oz = oj := Option.some.inj (gz.at_.symm.trans hoj)
  obtain ⟨ok, h1, _, h3⟩ := gz.pair i (by rw [List.map_append, List.mem_append]; exact .inl hi)
  obtain rfl : ok = oi := Option.some.inj (h1.symm.trans ho)
  rcases h3 with h3 | h3 | h3
  · exact h3.2.1 d hd
  · exact absurd hU (reach_down hdown f j i (fun o ho' e he hb => hdown j o ho' hn e he hb) h3)
  · exact h3.2.2 d hd

theorem flo_agree (hg : ∀ pre i js post, plan = pre ++ (i, js) :: post → ∃ o, OpGood P f c.n ops (pre.map (·.1)) i js post o) {i : Nat} {js : List Nat} {pre post : List (Nat × List Nat)} (h : Inv P f ops c cE E K plan D (pre ++ (i, js) :: post) listed a A w st)
    (hri : ∀ o, ops[i]? = some o → ∀ e ∈ o.after.toList, Region.binds .any e = true → ¬ Un listed e.on) {o : Oper} (ho : ops[i]? = some o) (hf : floB ops o = true) : ∀ t ∈ o.looksAt ops, a.tmps[t]? = A.tmps[t]? := by
  intro t ht
  obtain ⟨oi, g⟩ := hg (D ++ pre) i js post (by rw [h.split]; simp)
  obtain rfl : oi = o := Option.some.inj (g.at_.symm.trans ho)
  refine h.agree t (fun j hj hUj oj hoj hdj => ?_) fun j b hj oj hoj => ?_
  · obtain ⟨ok, h1, _, h3⟩ := g.pair j (by rw [List.map_append, List.mem_append]; exact .inl hj)
    obtain rfl : ok = oj := Option.some.inj (h1.symm.trans hoj)
    rcases h3 with h3 | h3 | h3
    · exact h3.2.1 t hdj ht
    · exact reach_down h.down f i j hri h3 hUj
    · exact h3.2.2 t hdj ht
  · obtain ⟨_, o', _, _, _, _, _, ho', hf', _⟩ := h.ah.old j b hj
    obtain rfl : o' = oj := Option.some.inj (ho'.symm.trans hoj)
    exact floB_slots hf ht hoj (floB_may hf')


theorem revals (hg : ∀ pre i js post, plan = pre ++ (i, js) :: post → ∃ o, OpGood P f c.n ops (pre.map (·.1)) i js post o) (hs : plan = D ++ Lr) (hdown : Down ops listed) {i : Nat} (hi : i ∈ Lr.map (·.1))
    (hri : ∀ o, ops[i]? = some o → ∀ e ∈ o.after.toList, Region.binds .any e = true → ¬ Un listed e.on) {c' : Cx} (hn : c'.n = c.n) {st2 : PS} {A2 : Act} {w2 : World} (hR : R c' st2 A2 w2)
    (hag : ∀ j ∈ D.map (·.1), Un listed j → ∃ o, ops[j]? = some o ∧ quietOp o.op = true ∧ pOps P ops (stillAt o.dst st2) [o] st2) :
    ∃ A', R c' st2 A' w2 ∧ (∀ j ∈ D.map (·.1), Un listed j → Yl P ops j A' w2) ∧ A'.defers = A2.defers ∧ A'.tmps.size = A2.tmps.size ∧
      ∀ t, (∀ j ∈ D.map (·.1), Un listed j → ∀ o, ops[j]? = some o → o.dst ≠ some t) → A'.tmps[t]? = A2.tmps[t]? := by
  obtain ⟨A', g1, g2, g3⟩ := reval (c := c') (P := P) (ops := ops) (st := st2) (w := w2) (U := Un listed) (D.map (·.1)) [] A2 hR (by simp) (fun pre1 j post1 e hUj => by
    have hj : j ∈ D.map (·.1) := by rw [e]; simp
    obtain ⟨ok, f1, f2, f5⟩ := hag j hj hUj
    obtain ⟨L1, L2, eL, m1, m2⟩ := List.map_eq_append_iff.1 e
    cases L2 with
    | nil => simp at m2
    | cons z L2 =>
      simp only [List.map_cons, List.cons.injEq] at m2
      obtain ⟨m2, m3⟩ := m2
      obtain ⟨oz, gz⟩ := hg L1 z.1 z.2 (L2 ++ Lr) (by rw [hs, eL]; simp)
      rw [m2] at gz
      obtain rfl : oz = ok := Option.some.inj (gz.at_.symm.trans f1)
      refine ⟨oz, f1, f2, gz.sel, by rw [hn]; exact gz.dst, gz.self, f5, fun k hk hUk ok2 hok2 => ?_⟩
      simp only [List.nil_append] at hk
      rw [← m1] at hk
      obtain ⟨o3, p1, p2, _⟩ := gz.pair k hk
      obtain rfl : o3 = ok2 := Option.some.inj (p1.symm.trans hok2)
      refine ⟨?_, fun d hd => ⟨(p2 d hd).1.resolve_right fun hl => reach_down hdown f i k hri (hl.2.1 i (by rw [List.map_append, List.mem_append]; exact .inr hi)) hUk, (p2 d hd).2⟩⟩
      obtain ⟨y3, q1, q2⟩ := List.mem_map.1 hk
      obtain ⟨pre3, post3, q3⟩ := List.append_of_mem q1
      obtain ⟨o4, g4⟩ := hg pre3 y3.1 y3.2 (post3 ++ z :: L2 ++ Lr) (by rw [hs, eL, q3]; simp)
      rw [q2] at g4
      have : o4 = o3 := Option.some.inj (g4.at_.symm.trans p1)
      exact this ▸ g4.sel)
  exact ⟨A', g1, by simpa using g2, g3⟩

theorem Inv.absorb (hg : ∀ pre i js post, plan = pre ++ (i, js) :: post → ∃ o, OpGood P f c.n ops (pre.map (·.1)) i js post o) {i : Nat} {js : List Nat} (h : Inv P f ops c cE E K plan D ((i, js) :: Lr) listed a A w st) (hUi : Un listed i)
    (hq : ∀ o, ops[i]? = some o → quietOp o.op = true) (hx' : ∀ j, reach ops f i j = true → (∀ k ∈ Lr.map (·.1), reach ops f k j = true) → ¬ Un listed j) : ∃ A' st', Inv P f ops c cE E K plan (D ++ [(i, js)]) Lr listed a A' w st' := by
  obtain ⟨o, g⟩ := hg D i js Lr h.split
  have hw := h.walk
  simp only [pD, g.at_] at hw
  obtain ⟨v, p, ⟨_, hK⟩, hR, hy, hself⟩ := Ytfjdfnlkobeehaa.absorb g.at_ (hq o g.at_) g.sel (by rw [h.ah.n]; exact g.dst) g.self h.rep hw
  have hpair : ∀ j ∈ D.map (·.1), Un listed j → ∀ ok, ops[j]? = some ok → ∀ x, o.dst = some x → x ∉ ok.looksAt ops ∧ ok.dst ≠ some x := fun j hj hU ok hok x hx => by
    obtain ⟨oj, h1, h2, _⟩ := g.pair j hj
    obtain rfl : oj = ok := Option.some.inj (h1.symm.trans hok)
    exact ⟨(h2 x hx).1.resolve_right fun hl => hx' j hl.1 hl.2.1 hU, (h2 x hx).2⟩
  refine ⟨_, _, ⟨by rw [h.split]; simp, h.size, h.down, fun x hx => h.rest x (List.mem_cons_of_mem _ hx), fun j b hj => ?_, fun j hj hU => ?_, by rw [defers_put]; exact h.defers, by rw [size_put]; exact h.tsize, fun t ht ht2 => ?_, hR, h.ah, hK, fun D1 x D2 e hU j hj hk => ?_⟩⟩
  · obtain ⟨h1, h2⟩ := h.ear j b hj
    simp only [List.map_cons, List.mem_cons] at h1
    rcases h1 with h1 | h1
    · exact absurd (h1 ▸ hUi) h2
    · exact ⟨h1, h2⟩
  · rw [List.map_append, List.mem_append] at hj
    rcases hj with hj | hj
    · obtain ⟨⟨ok, hok, hqk, hag⟩, hy'⟩ := h.wait j hj hU
      refine ⟨⟨ok, hok, hqk, ag_put hqk (fun x hx => hpair j hj hU ok hok x hx) hag⟩, Yl.put (c := c) hy' (fun ok hok => ?_) fun ok hok x hx => hpair j hj hU ok hok x hx⟩
      obtain ⟨y, hy1, hy2⟩ := List.mem_map.1 hj
      obtain ⟨pre, post, e⟩ := List.append_of_mem hy1
      obtain ⟨oy, gy⟩ := hg pre y.1 y.2 (post ++ (i, js) :: Lr) (by rw [h.split, e]; simp)
      have : oy = ok := by have := gy.at_; rw [hy2] at this; exact Option.some.inj (this.symm.trans hok)
      exact this ▸ gy.sel
    · simp at hj; subst hj; exact ⟨⟨o, g.at_, hq o g.at_, hself⟩, hy⟩
  · rw [get_put]
    · exact h.agree t (fun j hj hU => ht j (by simp only [List.map_append, List.mem_append]; exact .inl hj) hU) ht2
    · exact ht i (by simp) hUi o g.at_
  · rcases List.eq_nil_or_concat D2 with e0 | ⟨D3, y, e0⟩
    · subst e0
      have hx2 := (List.append_inj' e rfl).2
      simp only [List.cons.injEq, and_true] at hx2
      subst hx2
      exact hx' j hj (by simpa using hk)
    · subst e0
      have hx2 := List.append_inj' (s₁ := D) (s₂ := D1 ++ x :: D3) (t₁ := [(i, js)]) (t₂ := [y]) (by rw [e]; simp) rfl
      have hy := hx2.2
      simp only [List.cons.injEq, and_true] at hy
      subst hy
      exact h.late D1 x D3 hx2.1 hU j hj (by simpa using hk)


theorem Inv.adopt (hg : ∀ pre i js post, plan = pre ++ (i, js) :: post → ∃ o, OpGood P f c.n ops (pre.map (·.1)) i js post o) {i b : Nat} {js : List Nat} (h : Inv P f ops c cE E K plan D ((i, js) :: Lr) listed a A w st) (hb : (i, b) ∈ E) :
    ∃ A' st', Inv P f ops c (cE.less b) (drop1 E i) K plan (D ++ [(i, js)]) Lr listed a A' w st' := by
  obtain ⟨o, g⟩ := hg D i js Lr h.split
  have hn : ¬ Un listed i := (h.ear i b hb).2
  have hri : ∀ o, ops[i]? = some o → ∀ e ∈ o.after.toList, Region.binds .any e = true → ¬ Un listed e.on := fun o ho e he hb => h.down i o ho hn e he hb
  obtain ⟨_, o', vs, te, mv, mp, ev, ho', hflo, hwalk, hheap, hslot, hev⟩ := h.ah.old i b hb
  obtain ⟨hgd, hnq⟩ := mayFlo_spec (floB_may hflo)
  obtain rfl : o' = o := Option.some.inj (ho'.symm.trans g.at_)
  have hw := h.walk
  simp only [pD, ho'] at hw
  have hw : pOp P o' (fun s => again P ops js s ∧ pD P ops K Lr s) st := by
    have : pGuard ops st o' (pOp P o' (fun s => again P ops js s ∧ pD P ops K Lr s) st) _ := hw
    unfold pGuard at this
    simpa only [hgd] using this
  have hagr := flo_agree (pre := []) hg h hri ho' hflo
  obtain ⟨ρ, hrr⟩ := h.rep
  obtain ⟨cs, hcs, hag, hpd⟩ := hwalk.walk _ st A w ρ _ hrr (fun x hx => (eval_of hagr x hx).symm.trans (hev x hx)) hw
  have hR := R.adopt (a := A) hrr hcs ((h.ah.F b).2 (.inr ⟨i, hb⟩)) ((h.ah.A0 b).2 (.inr ⟨i, hb⟩)) hheap (d := o'.dst) (by rw [h.ah.n]; exact g.dst) (p := mp st.nx) (v := mv b) (fun E h1 h2 => hwalk.rep E _ _ h1 h2)
  have hUn : ∀ j ∈ D.map (·.1), Un listed j → ∃ oj, ops[j]? = some oj ∧ quietOp oj.op = true ∧ pOps P ops (stillAt oj.dst ((st.new cs).put o'.dst (mp st.nx))) [oj] ((st.new cs).put o'.dst (mp st.nx)) := by
    intro j hj hUj
    obtain ⟨⟨oj, hoj, hqj, _⟩, _⟩ := h.wait j hj hUj
    obtain ⟨ok, e1, _, e3⟩ := g.pair j hj
    obtain rfl : ok = oj := Option.some.inj (e1.symm.trans hoj)
    rcases e3 with e3 | e3 | e3
    · rcases e3.2.2 with hx | hx
      · rw [hnq] at hx; simp at hx
      · obtain ⟨o2, f4, f5⟩ := again_mem hag j hx
        obtain rfl : o2 = ok := Option.some.inj (f4.symm.trans hoj)
        exact ⟨o2, hoj, hqj, f5⟩
    · exact absurd hUj (reach_down h.down f i j hri e3)
    · rw [hqj] at e3; simp at e3
  obtain ⟨A2, hR3, hY, e1, e2, e3⟩ := revals hg (Lr := (i, js) :: Lr) h.split h.down (i := i) (by simp) hri (c' := cE.less b) h.ah.n hR hUn
  refine ⟨A2, _, ⟨by rw [h.split]; simp, h.size, h.down, fun x hx => ?_, fun j b' hj => ?_, fun j hj hU => ?_, by rw [e1, defers_put]; exact h.defers, by rw [e2, size_put]; exact h.tsize, fun t ht ht2 => ?_, hR3, h.ah.take hb, hpd, fun D1 x D2 e hU j hj hk => ?_⟩⟩
  · rcases h.rest x (List.mem_cons_of_mem _ hx) with h1 | ⟨b', h1⟩
    · exact .inl h1
    · refine .inr ⟨b', mem_drop1.2 ⟨h1, fun e => ?_⟩⟩
      obtain ⟨pre2, post2, q⟩ := List.append_of_mem hx
      obtain ⟨ox, gx⟩ := hg (D ++ (i, js) :: pre2) x.1 x.2 post2 (by rw [h.split, q]; simp)
      exact gx.fresh (by rw [e]; simp)
  · obtain ⟨h1, h2⟩ := mem_drop1.1 hj
    obtain ⟨h3, h4⟩ := h.ear j b' h1
    simp only [List.map_cons, List.mem_cons] at h3
    exact ⟨h3.resolve_left h2, h4⟩
  · rw [List.map_append, List.mem_append] at hj
    rcases hj with hj | hj
    · exact ⟨hUn j hj hU, hY j hj hU⟩
    · simp at hj; subst hj; exact absurd hU hn
  · have ht' : ∀ j ∈ D.map (·.1), Un listed j → ∀ oj, ops[j]? = some oj → oj.dst ≠ some t := fun j hj hUj => ht j (by rw [List.map_append, List.mem_append]; exact .inl hj) hUj
    rw [e3 t ht']
    by_cases hdt : o'.dst = some t
    · have hsz : t < A.tmps.size := by
        obtain ⟨ρ, hr⟩ := h.rep
        rw [hr.size, h.ah.n]; exact g.dst t hdt
      rw [hdt, get_put_self hsz]
      exact hslot t hdt
    · rw [get_put hdt]
      refine h.agree t ht' fun j b' hj oj hoj => ?_
      by_cases hji : j = i
      · subst hji
        obtain rfl : oj = o' := Option.some.inj (hoj.symm.trans ho')
        exact hdt
      · exact ht2 j b' (mem_drop1.2 ⟨hj, hji⟩) oj hoj
  · rcases List.eq_nil_or_concat D2 with e0 | ⟨D3, y, e0⟩
    · subst e0
      have hx2 := (List.append_inj' e rfl).2
      simp only [List.cons.injEq, and_true] at hx2
      subst hx2
      exact absurd hU hn
    · subst e0
      have hx2 := List.append_inj' (s₁ := D) (s₂ := D1 ++ x :: D3) (t₁ := [(i, js)]) (t₂ := [y]) (by rw [e]; simp) rfl
      have hy := hx2.2
      simp only [List.cons.injEq, and_true] at hy
      subst hy
      exact h.late D1 x D3 hx2.1 hU j hj (by simpa using hk)


theorem Inv.upto (hg : ∀ pre i js post, plan = pre ++ (i, js) :: post → ∃ o, OpGood P f c.n ops (pre.map (·.1)) i js post o) {i : Nat} {js : List Nat} (hri : ∀ o, ops[i]? = some o → ∀ e ∈ o.after.toList, Region.binds .any e = true → ¬ Un listed e.on)
    (hnf : ∀ o, ops[i]? = some o → floB ops o = false) :
    ∀ (pre D : List (Nat × List Nat)) (cE : Cx) (E : List (Nat × Nat)) (A : Act) (st : PS), Inv P f ops c cE E K plan D (pre ++ (i, js) :: Lr) listed a A w st → ∃ cE' E' A' st', Inv P f ops c cE' E' K plan (D ++ pre) ((i, js) :: Lr) listed a A' w st'
  | [], D, cE, E, A, st, h => ⟨cE, E, A, st, by simpa using h⟩
  | (k, ks) :: pre, D, cE, E, A, st, h => by
    rcases h.rest (k, ks) (by simp) with hU | ⟨b, hb⟩
    · obtain ⟨A', st', h'⟩ := Inv.absorb hg (i := k) (js := ks) (Lr := pre ++ (i, js) :: Lr) h hU (fun ok hok => by
        obtain ⟨o, g⟩ := hg (D ++ (k, ks) :: pre) i js Lr (by rw [h.split]; simp)
        obtain ⟨oj, h1, _, h3⟩ := g.pair k (by simp)
        obtain rfl : oj = ok := Option.some.inj (h1.symm.trans hok)
        rcases h3 with h3 | h3 | h3
        · exact h3.1
        · exact absurd hU (reach_down h.down f i k hri h3)
        · rw [hnf o g.at_] at h3; simp at h3) (fun j _ hk => reach_down h.down f i j hri (hk i (by simp)))
      obtain ⟨cE2, E2, A2, st2, h2⟩ := Inv.upto hg hri hnf pre (D ++ [(k, ks)]) cE E A' st' h'
      exact ⟨cE2, E2, A2, st2, by simpa using h2⟩
    · obtain ⟨A', st', h'⟩ := Inv.adopt hg (Lr := pre ++ (i, js) :: Lr) h hb
      obtain ⟨cE2, E2, A2, st2, h2⟩ := Inv.upto hg hri hnf pre (D ++ [(k, ks)]) _ _ A' st' h'
      exact ⟨cE2, E2, A2, st2, by simpa using h2⟩

theorem ready_spec {i : Nat} : i ∈ Region.ready .any ops listed ↔ i < ops.size ∧ listed.getD i true = false ∧ ∃ o, ops[i]? = some o ∧ ∀ e ∈ o.after, Region.binds .any e = true → listed.getD e.on false = true := by
  unfold Region.ready
  rw [List.mem_filter, List.mem_range]
  constructor
  · rintro ⟨h1, h2⟩
    simp only [Bool.and_eq_true, Bool.not_eq_true'] at h2
    refine ⟨h1, h2.1, ops[i], by simp [h1], fun e he hb => ?_⟩
    have h3 := h2.2
    simp only [h1, getElem?_pos, Option.map_some, Option.getD_some, Array.all_eq_true'] at h3
    have := h3 e he
    simpa [hb] using this
  · rintro ⟨h1, h2, o, ho, h3⟩
    refine ⟨h1, ?_⟩
    simp only [Bool.and_eq_true, Bool.not_eq_true']
    refine ⟨h2, ?_⟩
    simp only [ho, Option.map_some, Option.getD_some, Array.all_eq_true']
    intro e he
    cases hb : Region.binds .any e with
    | false => simp
    | true => simp [h3 e he hb]

theorem un_of_getD {i : Nat} (h : listed.getD i true = false) : Un listed i := by
  unfold Un
  rw [Array.getD_eq_getD_getElem?] at h
  cases hx : listed[i]? with
  | none => simp [hx] at h
  | some b => simp [hx] at h; rw [h]
theorem not_un_of_getD {i : Nat} (h : listed.getD i false = true) : ¬ Un listed i := by
  unfold Un
  rw [Array.getD_eq_getD_getElem?] at h
  intro hu
  rw [hu] at h; simp at h

theorem Inv.step (hg : ∀ pre i js post, plan = pre ++ (i, js) :: post → ∃ o, OpGood P f c.n ops (pre.map (·.1)) i js post o) (hcov : ∀ i, i < ops.size → i ∈ plan.map (·.1)) {i : Nat} (h : Inv P f ops c cE E K plan D Lr listed a A w st) (hi : i ∈ Region.ready .any ops listed)
    {Q : Exit → Act → World → Prop} : wpOp P ops Q i (fun a' w' => ∃ cE' E' D' Lr' A' st', Inv P f ops c cE' E' K plan D' Lr' (listed.setIfInBounds i true) a' A' w' st') a w := by
  obtain ⟨hlt, hun, o, ho, hdeps⟩ := ready_spec.1 hi
  have hU := un_of_getD hun
  have hri : ∀ o', ops[i]? = some o' → ∀ e ∈ o'.after.toList, Region.binds .any e = true → ¬ Un listed e.on := by
    intro o' ho' e he hb
    have : o = o' := Option.some.inj (ho.symm.trans ho')
    subst this
    exact not_un_of_getD (hdeps e (by simpa using he) hb)
  have hdown : Down ops (listed.setIfInBounds i true) := by
    intro k ok hok hk e he hb hx
    rw [Un.set] at hx
    by_cases hki : k = i
    · subst hki; exact hri ok hok e he hb hx.1
    · exact h.down k ok hok (fun hu => hk (Un.set.2 ⟨hu, hki⟩)) e he hb hx.1
  have hinplan : i ∈ plan.map (·.1) := hcov i hlt
  have hearplan : ∀ {cE : Cx} {E : List (Nat × Nat)} {D Lr : List (Nat × List Nat)} {A : Act} {st : PS}, Inv P f ops c cE E K plan D Lr listed a A w st → ∀ j b, (j, b) ∈ E → j ∈ plan.map (·.1) ∧ i ≠ j := fun h j b hj => by
    obtain ⟨h1, h2⟩ := h.ear j b hj
    exact ⟨by rw [h.split, List.map_append, List.mem_append]; exact .inr h1, fun e => h2 (e ▸ hU)⟩
  
  have hkeep : ∀ {cE : Cx} {E : List (Nat × Nat)} {D Lr : List (Nat × List Nat)} {A : Act} {st : PS} (v : Value), Inv P f ops c cE E K plan D Lr listed a A w st → (i ∈ D.map (·.1) ∨ ∃ js L2, Lr = (i, js) :: L2) → Ah P ops c cE E (a.put o.dst v) := fun {cE E D Lr A st} v h hwh =>
    h.ah.act fun j b hj oj hoj _ => ⟨fun d hd => get_put fun e => dst_ne hg hinplan (hearplan h j b hj).1 (hearplan h j b hj).2 ho hoj e hd, fun t ht => get_put fun e => by
      obtain ⟨g1, g2⟩ := h.ear j b hj
      rcases hwh with hD | ⟨js, L2, rfl⟩
      · exact behind_looks hg h.down h.split hD g1 ho hoj hU g2 e ht
      · have g3 : j ∈ L2.map (·.1) := by
          simp only [List.map_cons, List.mem_cons] at g1
          exact g1.resolve_left fun e' => (hearplan h j b hj).2 e'.symm
        exact behind_looks hg h.down (l1 := D ++ [(i, js)]) (l2 := L2) (by rw [h.split]; simp) (by simp) g3 ho hoj hU g2 e ht⟩
  
  have wait : ∀ (cE : Cx) (E : List (Nat × Nat)) (D Lr : List (Nat × List Nat)) (A : Act) (st : PS), Inv P f ops c cE E K plan D Lr listed a A w st → i ∈ D.map (·.1) →
      wpOp P ops Q i (fun a' w' => ∃ cE' E' D' Lr' A' st', Inv P f ops c cE' E' K plan D' Lr' (listed.setIfInBounds i true) a' A' w' st') a w := by
    intro cE E D Lr A st h hD
    obtain ⟨y, hy1, hy2⟩ := List.mem_map.1 hD
    obtain ⟨pre, post, eD⟩ := List.append_of_mem hy1
    obtain ⟨oi, g⟩ := hg pre y.1 y.2 (post ++ Lr) (by rw [h.split, eD]; simp)
    rw [hy2] at g
    have : oi = o := Option.some.inj (g.at_.symm.trans ho)
    subst this
    have hnot : i ∉ pre.map (·.1) := g.fresh
    obtain ⟨⟨oq, hoq, hqi, _⟩, _⟩ := h.wait i hD hU
    obtain rfl : oq = oi := Option.some.inj (hoq.symm.trans ho)
    have hnf : floB ops oq = false := by
      cases hf : floB ops oq with
      | false => rfl
      | true =>
        have hx := (mayFlo_spec (floB_may hf)).2
        rw [hqi] at hx; simp at hx
    have look := look_exec (ops := ops) g.sel (a := a) (A := A) fun t ht => h.agree t (fun j hj hUj oj hoj hdj => by
      rw [eD] at hj
      simp only [List.map_append, List.map_cons, List.mem_append, List.mem_cons] at hj
      rcases hj with hj | hj | hj
      · obtain ⟨ok, h1, _, h3⟩ := g.pair j hj
        have : ok = oj := Option.some.inj (h1.symm.trans hoj)
        subst this
        rcases h3 with h3 | h3 | h3
        · exact h3.2.1 t hdj ht
        · exact reach_down h.down f i j hri h3 hUj
        · rw [hnf] at h3; simp at h3
      · rw [hy2] at hj; subst hj
        have : oj = oq := Option.some.inj (hoj.symm.trans ho)
        subst this
        exact g.self t hdj ht
      · obtain ⟨z, hz1, hz2⟩ := List.mem_map.1 hj
        obtain ⟨pre2, post2, e2⟩ := List.append_of_mem hz1
        obtain ⟨oz, gz⟩ := hg (pre ++ y :: pre2) z.1 z.2 (post2 ++ Lr) (by rw [h.split, eD, e2]; simp)
        rw [hz2] at gz
        have : oz = oj := Option.some.inj (gz.at_.symm.trans hoj)
        subst this
        obtain ⟨ok, h1, h2, _⟩ := gz.pair i (by simp [hy2])
        have : ok = oq := Option.some.inj (h1.symm.trans ho)
        subst this
        rcases (h2 t hdj).1 with hn | ⟨hr, hp, _⟩
        · exact hn ht
        · exact h.late (pre ++ y :: pre2) z post2 (by rw [eD, e2]; simp) (by rw [hz2]; exact hUj) i (by rw [hz2]; exact hr) hp hU) fun j b hj oj hoj hdj =>
      early_looks hg h.down h.split hD (h.ear j b hj).1 ho hoj hU (h.ear j b hj).2 hdj ht
    obtain ⟨o', v, ho', hv, hgv⟩ := (h.wait i hD hU).2
    have : o' = oq := Option.some.inj (ho'.symm.trans ho)
    subst this
    have fin : Inv P f ops c cE E K plan D Lr (listed.setIfInBounds i true) (a.put o'.dst v) A w st := by
      refine ⟨h.split, by simpa using h.size, hdown, fun x hx => ?_, fun j b hj => ⟨(h.ear j b hj).1, fun hx => (h.ear j b hj).2 (Un.set.1 hx).1⟩, fun j hj hUj => h.wait j hj (Un.set.1 hUj).1, by rw [defers_put]; exact h.defers, by rw [size_put]; exact h.tsize, fun t ht ht2 => ?_, h.rep, hkeep v h (.inl hD), h.walk, fun D1 x D2 e hx j hj hk hUj => h.late D1 x D2 e (Un.set.1 hx).1 j hj hk (Un.set.1 hUj).1⟩
      · rcases h.rest x hx with h1 | h1
        · refine .inl (Un.set.2 ⟨h1, fun e => ?_⟩)
          obtain ⟨pre2, post2, e2⟩ := List.append_of_mem hx
          obtain ⟨ox, gx⟩ := hg (D ++ pre2) x.1 x.2 post2 (by rw [h.split, e2]; simp)
          exact gx.fresh (by rw [e]; simp only [List.map_append, List.mem_append]; exact .inl hD)
        · exact .inr h1
      · by_cases hdt : o'.dst = some t
        · rw [hdt, get_put_self, hgv t hdt]
          rw [h.tsize]
          obtain ⟨ρ, hr⟩ := h.rep
          rw [hr.size, h.ah.n]; exact g.dst t hdt
        · rw [get_put hdt]
          exact h.agree t (fun j hj hUj oj hoj hdj => by
            by_cases hji : j = i
            · subst hji
              have : oj = o' := Option.some.inj (hoj.symm.trans ho)
              subst this; exact hdt hdj
            · exact ht j hj (Un.set.2 ⟨hUj, hji⟩) oj hoj hdj) ht2
    unfold wpOp
    simp only [ho]
    rcases hv with ⟨hw, hv⟩ | ⟨hw, rfl⟩
    · rw [look.2, if_pos hw]
      refine .inl ?_
      unfold Oper.wp
      rw [look.1, hv]
      exact ⟨cE, E, D, Lr, A, st, fin⟩
    · rw [look.2, if_neg (by simp [hw])]
      exact ⟨cE, E, D, Lr, A, st, fin⟩
  by_cases hD : i ∈ D.map (·.1)
  · exact wait cE E D Lr A st h hD
  · have hL : i ∈ Lr.map (·.1) := by
      have := hcov i hlt
      rw [h.split, List.map_append, List.mem_append] at this
      exact this.resolve_left hD
    obtain ⟨y, hy1, hy2⟩ := List.mem_map.1 hL
    obtain ⟨pre, post, eL⟩ := List.append_of_mem hy1
    obtain ⟨i', js⟩ := y
    simp only [] at hy2; subst hy2
    subst eL
    have hgi := hg (D ++ pre) i' js post (by rw [h.split]; simp)
    cases hf : floB ops o with
    | true =>
      
      obtain ⟨oi, g⟩ := hgi
      have : oi = o := Option.some.inj (g.at_.symm.trans ho)
      subst this
      obtain ⟨hgd, hnq⟩ := mayFlo_spec (floB_may hf)
      have hagr := flo_agree hg h hri ho hf
      obtain ⟨st', A', w', hR', hpd', hsim⟩ := sim_upto (L := oi.looksAt ops) pre st A w h.rep h.walk (fun k hk => by
        obtain ⟨y, hy1, hy2⟩ := List.mem_map.1 hk
        obtain ⟨pre2, pre3, e2⟩ := List.append_of_mem hy1
        obtain ⟨ok, gk⟩ := hg (D ++ pre2) y.1 y.2 (pre3 ++ (i', js) :: post) (by rw [h.split, e2]; simp)
        rw [hy2] at gk
        refine ⟨ok, gk.at_, by rw [h.ah.n]; exact gk.dst, fun t ht hdk => ?_⟩
        obtain ⟨ok', h1, _, h3⟩ := g.pair k (by rw [List.map_append, List.mem_append]; exact .inr hk)
        obtain rfl : ok' = ok := Option.some.inj (h1.symm.trans gk.at_)
        rcases h3 with h3 | h3 | h3
        · exact h3.2.1 t hdk ht
        · have hnk := reach_down h.down f i' k hri h3
          rcases h.rest y (by rw [e2]; simp) with hx | ⟨b, hb⟩
          · exact hnk (hy2 ▸ hx)
          · rw [hy2] at hb
            obtain ⟨_, o', _, _, _, _, _, ho', hf', _⟩ := h.ah.old k b hb
            obtain rfl : o' = ok' := Option.some.inj (ho'.symm.trans gk.at_)
            exact floB_slots hf ht ho' (floB_may hf') hdk
        · exact h3.2.2 t hdk ht)
      simp only [pD, ho] at hpd'
      have hpd' : pOp P oi (fun s => again P ops js s ∧ pD P ops K post s) st' := by
        have : pGuard ops st' oi (pOp P oi (fun s => again P ops js s ∧ pD P ops K post s) st') _ := hpd'
        unfold pGuard at this
        simpa only [hgd] using this
      obtain ⟨vs, te, mv, mp, hflo⟩ := floB_spec hf hR' hpd'
      have hall : ∀ t ∈ oi.looksAt ops, a.tmps[t]? = A'.tmps[t]? := fun t ht => (hagr t ht).trans (hsim t ht).symm
      have hlk := look_exec (ops := ops) g.sel (a := a) (A := A') hall
      have hw1 := hflo.run w
      rw [← hlk.1] at hw1
      obtain ⟨w1, ew1⟩ : ∃ w1 : World, w1 = { w with heap := w.heap.push (.cells vs te (0, 0)) } := ⟨_, rfl⟩
      have hheap : w1.heap = w.heap.push (.cells vs te (0, 0)) := by rw [ew1]
      have hsw : Sw w w1 := by rw [ew1]; exact ⟨rfl, rfl, rfl⟩
      rw [← ew1] at hw1
      have hR1 := R.early h.rep hheap
      obtain ⟨A2, hR3, hY, e1, e2, e3⟩ := revals hg h.split h.down (i := i') hL hri (c' := cE.plus w1 w.heap.size) h.ah.n hR1 (fun j hj hUj => (h.wait j hj hUj).1)
      have hsz : a.tmps.size = c.n := by
        obtain ⟨ρ, hr⟩ := h.rep
        rw [h.tsize, hr.size, h.ah.n]
      have hah := h.ah.add (A := A) h.rep ho (fun b hb => (h.ear i' b hb).2 hU) hf hflo (eval_of hall) g.self (fun d hd => by rw [hsz]; exact g.dst d hd) (fun j b hj oj hoj d hd => ⟨dst_ne hg hinplan (hearplan h j b hj).1 (hearplan h j b hj).2 ho hoj hd, fun hl => by
        obtain ⟨_, o', _, _, _, _, _, ho', hf', _⟩ := h.ah.old j b hj
        obtain rfl : o' = oj := Option.some.inj (ho'.symm.trans hoj)
        exact floB_slots hf' hl ho (floB_may hf) hd⟩) hheap hsw
      unfold wpOp
      simp only [ho]
      have hwt : Region.wanted oi (yielded ops a.tmps) = true := by unfold Region.wanted; rw [hgd]
      rw [if_pos hwt]
      refine .inl ?_
      unfold Oper.wp
      rw [hw1]
      refine ⟨_, _, D, pre ++ (i', js) :: post, A2, st, h.split, by simpa using h.size, hdown, fun x hx => ?_, fun j b hj => ?_, fun j hj hUj => ?_, by rw [e1, defers_put]; exact h.defers, by rw [e2, size_put]; exact h.tsize, fun t ht ht2 => ?_, hR3, hah, h.walk, fun D1 x D2 e hx j hj hk hUj => h.late D1 x D2 e (Un.set.1 hx).1 j hj hk (Un.set.1 hUj).1⟩
      · by_cases hxi : x.1 = i'
        · exact .inr ⟨w.heap.size, by rw [hxi]; exact List.mem_cons_self ..⟩
        · rcases h.rest x hx with h1 | ⟨b, h1⟩
          · exact .inl (Un.set.2 ⟨h1, hxi⟩)
          · exact .inr ⟨b, List.mem_cons_of_mem _ h1⟩
      · rcases List.mem_cons.1 hj with hj | hj
        · obtain ⟨rfl, _⟩ := Prod.mk.inj hj
          exact ⟨hL, fun hx => (Un.set.1 hx).2 rfl⟩
        · exact ⟨(h.ear j b hj).1, fun hx => (h.ear j b hj).2 (Un.set.1 hx).1⟩
      · exact ⟨(h.wait j hj (Un.set.1 hUj).1).1, hY j hj (Un.set.1 hUj).1⟩
      · have ht' : ∀ j ∈ D.map (·.1), Un listed j → ∀ oj, ops[j]? = some oj → oj.dst ≠ some t := fun j hj hUj oj hoj => ht j hj (Un.set.2 ⟨hUj, fun e => hD (e ▸ hj)⟩) oj hoj
        rw [e3 t ht', get_put (ht2 i' _ (List.mem_cons_self ..) oi ho)]
        exact h.agree t ht' fun j b hj => ht2 j b (List.mem_cons_of_mem _ hj)
    | false =>
    obtain ⟨cE1, E1, A1, st1, h1⟩ := Inv.upto hg hri (fun o' ho' => by rw [← Option.some.inj (ho.symm.trans ho')]; exact hf) pre D cE E A st h
    cases hq : quietOp o.op with
    | true =>
      obtain ⟨A2, st2, h2⟩ := Inv.absorb hg h1 hU (fun o' ho' => by rw [← Option.some.inj (ho.symm.trans ho')]; exact hq) (fun j hj _ => reach_down h1.down f i' j hri hj)
      exact wait _ _ _ _ _ _ h2 (by simp)
    | false =>
      obtain ⟨oi, g⟩ := hgi
      have : oi = o := Option.some.inj (g.at_.symm.trans ho)
      subst this
      have look := look_exec (ops := ops) g.sel (a := a) (A := A1) fun t ht => h1.agree t (fun j hj hUj oj hoj hdj => by
        obtain ⟨ok, e1, _, e3⟩ := g.pair j hj
        have : ok = oj := Option.some.inj (e1.symm.trans hoj)
        subst this
        rcases e3 with e3 | e3 | e3
        · exact e3.2.1 t hdj ht
        · exact reach_down h1.down f i' j hri e3 hUj
        · rw [hf] at e3; simp at e3) fun j b hj oj hoj hdj => by
          obtain ⟨g1, g2⟩ := h1.ear j b hj
          simp only [List.map_cons, List.mem_cons] at g1
          exact early_looks hg h1.down (l1 := (D ++ pre) ++ [(i', js)]) (l2 := post) (by rw [h1.split]; simp) (by simp) (g1.resolve_left fun e => g2 (e ▸ hU)) ho hoj hU g2 hdj ht
      have hw := h1.walk
      simp only [pD, ho] at hw
      have next : ∀ (st2 : PS) (u : Value) (w2 : World), (again P ops js st2 ∧ pD P ops K post st2) → R cE1 st2 (A1.put oi.dst u) w2 →
          ∃ cE' E' D' Lr' A' st', Inv P f ops c cE' E' K plan D' Lr' (listed.setIfInBounds i' true) (a.put oi.dst u) A' w2 st' := by
        intro st2 u w2 ⟨hag, hpd⟩ hR2
        have hUn : ∀ j ∈ (D ++ pre).map (·.1), Un listed j → ∃ oj, ops[j]? = some oj ∧ quietOp oj.op = true ∧ pOps P ops (stillAt oj.dst st2) [oj] st2 := by
          intro j hj hUj
          obtain ⟨ok, e1, _, e3⟩ := g.pair j hj
          rcases e3 with e3 | e3 | e3
          · rcases e3.2.2 with hx | hx
            · rw [hq] at hx; simp at hx
            · obtain ⟨o2, f4, f5⟩ := again_mem hag j hx
              obtain rfl : o2 = ok := Option.some.inj (f4.symm.trans e1)
              exact ⟨o2, e1, e3.1, f5⟩
          · exact absurd hUj (reach_down h1.down f i' j hri e3)
          · rw [hf] at e3; simp at e3
        obtain ⟨A2, hR3, hY, e1, e2, e3⟩ := revals hg h1.split h1.down (i := i') (by simp) hri (c' := cE1) h1.ah.n hR2 hUn
        refine ⟨cE1, E1, (D ++ pre) ++ [(i', js)], post, A2, st2, ⟨by rw [h1.split]; simp, by simpa using h1.size, hdown, fun x hx => ?_, fun j b hj => ?_, fun j hj hUj => ?_,
          by rw [e1, defers_put, defers_put]; exact h1.defers, by rw [e2, size_put, size_put]; exact h1.tsize, fun t ht ht2 => ?_, hR3, hkeep u h1 (.inr ⟨_, _, rfl⟩), hpd, fun D1 x D2 e hx j hj hk => ?_⟩⟩
        · rcases h1.rest x (List.mem_cons_of_mem _ hx) with h3 | h3
          · refine .inl (Un.set.2 ⟨h3, fun e => ?_⟩)
            obtain ⟨pre2, post2, q⟩ := List.append_of_mem hx
            obtain ⟨ox, gx⟩ := hg (D ++ pre ++ (i', js) :: pre2) x.1 x.2 post2 (by rw [h1.split, q]; simp)
            exact gx.fresh (by rw [e]; simp)
          · exact .inr h3
        · obtain ⟨g1, g2⟩ := h1.ear j b hj
          simp only [List.map_cons, List.mem_cons] at g1
          exact ⟨g1.resolve_left fun e => g2 (e ▸ hU), fun hx => g2 (Un.set.1 hx).1⟩
        · obtain ⟨hUj, hne⟩ := Un.set.1 hUj
          rw [List.map_append, List.mem_append] at hj
          rcases hj with hj | hj
          · exact ⟨hUn j hj hUj, hY j hj hUj⟩
          · simp at hj; exact absurd hj hne
        · have ht' : ∀ j ∈ (D ++ pre).map (·.1), Un listed j → ∀ oj, ops[j]? = some oj → oj.dst ≠ some t := fun j hj hUj oj hoj =>
            ht j (by rw [List.map_append, List.mem_append]; exact .inl hj) (Un.set.2 ⟨hUj, fun e => g.fresh (e ▸ hj)⟩) oj hoj
          rw [e3 t ht']
          by_cases hdt : oi.dst = some t
          · have hn : t < A1.tmps.size := by
              obtain ⟨ρ, hr⟩ := h1.rep
              rw [hr.size, h1.ah.n]; exact g.dst t hdt
            rw [hdt, get_put_self hn, get_put_self (by rw [h1.tsize]; exact hn)]
          · rw [get_put hdt, get_put hdt]; exact h1.agree t ht' ht2
        · rcases List.eq_nil_or_concat D2 with e0 | ⟨D3, y, e0⟩
          · subst e0
            have hx2 := (List.append_inj' e rfl).2
            simp only [List.cons.injEq, and_true] at hx2
            subst hx2
            exact absurd rfl (Un.set.1 hx).2
          · subst e0
            have hx2 := List.append_inj' (s₁ := D ++ pre) (s₂ := D1 ++ x :: D3) (t₁ := [(i', js)]) (t₂ := [y]) (by rw [e]; simp) rfl
            have hy := hx2.2
            simp only [List.cons.injEq, and_true] at hy
            subst hy
            exact fun hUj => h1.late D1 x D3 hx2.1 (Un.set.1 hx).1 j hj (by simpa using hk) (Un.set.1 hUj).1
      unfold wpOp
      simp only [ho]
      rcases guard_sound h1.rep hw with ⟨hwt, hrun⟩ | ⟨hwt, hskip⟩
      · rw [look.2, if_pos hwt]
        refine .inl (wp_shape look.1 (op_sound h1.rep (by rw [h1.ah.n]; exact g.dst) hrun) (fun u w2 hx => ?_) fun A' w2 hx => ?_)
        · obtain ⟨st2, hk, hR2⟩ := hx
          exact next st2 u w2 hk hR2
        · obtain ⟨st2, _, ρ, hr⟩ := hx
          exact hr.defers
      · rw [look.2, if_neg (by simp [hwt])]
        exact next _ undef w hskip (h1.rep.put (by rw [h1.ah.n]; exact g.dst) undef)

theorem ready_nil (hg : ∀ pre i js post, plan = pre ++ (i, js) :: post → ∃ o, OpGood P f c.n ops (pre.map (·.1)) i js post o) (hsz : listed.size = ops.size) (h : Region.ready .any ops listed = []) : ∀ x ∈ plan, ¬ Un listed x.1 := by
  have key : ∀ (post pre : List (Nat × List Nat)), plan = pre ++ post → (∀ x ∈ pre, ¬ Un listed x.1) → ∀ x ∈ plan, ¬ Un listed x.1 := by
    intro post
    induction post with
    | nil => intro pre e hp x hx; rw [e] at hx; exact hp x (by simpa using hx)
    | cons y post ih =>
      intro pre e hp
      refine ih (pre ++ [y]) (by rw [e]; simp) fun x hx => ?_
      rw [List.mem_append] at hx
      rcases hx with hx | hx
      · exact hp x hx
      · simp at hx; subst hx
        intro hU
        obtain ⟨o, g⟩ := hg pre x.1 x.2 post e
        have hlt : x.1 < ops.size := (Array.getElem?_eq_some_iff.1 g.at_).1
        have : x.1 ∈ Region.ready .any ops listed := ready_spec.2 ⟨hlt, by
            rw [Array.getD_eq_getD_getElem?, hU]; rfl, o, g.at_, fun e he hb => by
            have hmem := g.deps e (by simpa using he) hb
            obtain ⟨y, hy1, hy2⟩ := List.mem_map.1 hmem
            have hnu := hp y hy1
            rw [hy2] at hnu
            obtain ⟨o2, g2⟩ : ∃ o2, ops[e.on]? = some o2 := by
              obtain ⟨oj, h1, _⟩ := g.pair e.on hmem
              exact ⟨oj, h1⟩
            have hlt2 : e.on < listed.size := by rw [hsz]; exact (Array.getElem?_eq_some_iff.1 g2).1
            rw [Array.getD_eq_getD_getElem?]
            unfold Un at hnu
            have : listed[e.on]? = some listed[e.on] := by simp [hlt2]
            rw [this] at hnu ⊢
            cases hb2 : listed[e.on] with
            | true => rfl
            | false => rw [hb2] at hnu; simp at hnu⟩
        rw [h] at this; simp at this
  exact key plan [] rfl (by simp)

theorem Inv.fin (hg : ∀ pre i js post, plan = pre ++ (i, js) :: post → ∃ o, OpGood P f c.n ops (pre.map (·.1)) i js post o) (hall : ∀ x ∈ plan, ¬ Un listed x.1) :
    ∀ (Lr D : List (Nat × List Nat)) (cE : Cx) (E : List (Nat × Nat)) (A : Act) (st : PS), Inv P f ops c cE E K plan D Lr listed a A w st → ∃ st', K st' ∧ R c st' a w
  | [], D, cE, E, A, st, h => by
    have hE : E = [] := by
      cases E with
      | nil => rfl
      | cons x r => exact absurd (h.ear x.1 x.2 (List.mem_cons_self ..)).1 (by simp)
    subst hE
    have heq : a = A := by
      have ht : a.tmps = A.tmps := Array.ext_getElem? fun t => h.agree t (fun j hj hU => by
        obtain ⟨y, hy1, hy2⟩ := List.mem_map.1 hj
        rw [← hy2] at hU
        exact absurd hU (hall y (by rw [h.split]; simp [hy1]))) (fun j b hj => by simp at hj)
      have hd := h.defers
      cases a; cases A; simp_all
    exact ⟨st, h.walk, h.ah.end (heq ▸ h.rep)⟩
  | (i, js) :: Lr, D, cE, E, A, st, h => by
    rcases h.rest (i, js) (by simp) with h1 | ⟨b, hb⟩
    · exact absurd h1 (hall (i, js) (by rw [h.split]; simp))
    · obtain ⟨A', st', h'⟩ := Inv.adopt hg h hb
      exact Inv.fin hg hall Lr _ _ _ A' st' h'

theorem Inv.any (hg : ∀ pre i js post, plan = pre ++ (i, js) :: post → ∃ o, OpGood P f c.n ops (pre.map (·.1)) i js post o) (hcov : ∀ i, i < ops.size → i ∈ plan.map (·.1)) {Q : Exit → Act → World → Prop} (hQ : ∀ st a w, K st → R c st a w → Q .normal a w) :
    ∀ (fuel : Nat) (cE : Cx) (E : List (Nat × Nat)) (D Lr : List (Nat × List Nat)) (listed : Array Bool) (a A : Act) (w : World) (st : PS), listed.toList.count false ≤ fuel → Inv P f ops c cE E K plan D Lr listed a A w st → wpAny P .any ops Q fuel listed a w
  | 0, cE, E, D, Lr, listed, a, A, w, st, hf, h => by
    have hnone : ∀ i, ¬ Un listed i := by
      intro i hu
      unfold Un at hu
      have : false ∈ listed.toList := by
        rw [← Array.getElem?_toList] at hu
        exact List.mem_of_getElem? hu
      have := List.count_pos_iff.2 this
      omega
    have hr : Region.ready .any ops listed = [] := by
      cases hx : Region.ready .any ops listed with
      | nil => rfl
      | cons x r => exact absurd (un_of_getD (ready_spec.1 (hx ▸ List.mem_cons_self .. : x ∈ Region.ready .any ops listed)).2.1) (hnone x)
    obtain ⟨_, h1, h2⟩ := Inv.fin hg (fun x _ => hnone x.1) _ _ _ _ _ _ h
    exact ⟨hr, hQ _ _ _ h1 h2⟩
  | fuel + 1, cE, E, D, Lr, listed, a, A, w, st, hf, h => by
    refine ⟨fun hr => ?_, fun i hi => ?_⟩
    · obtain ⟨_, h1, h2⟩ := Inv.fin hg (ready_nil hg h.size hr) _ _ _ _ _ _ h
      exact hQ _ _ _ h1 h2
    · refine wpOp_mono ?_ (h.step hg hcov hi)
      rintro a' w' ⟨cE', E', D', Lr', A', st', h'⟩
      refine Inv.any hg hcov hQ fuel cE' E' D' Lr' _ a' A' w' st' ?_ h'
      have hU := un_of_getD (ready_spec.1 hi).2.1
      unfold Un at hU
      obtain ⟨hlt, hv⟩ := Array.getElem?_eq_some_iff.1 hU
      have : (listed.setIfInBounds i true).toList = listed.toList.set i true := by simp
      rw [this, List.count_set (by simpa using hlt)]
      have hpos : 0 < listed.toList.count false := List.count_pos_iff.2 (by
        rw [← Array.getElem?_toList] at hU
        exact List.mem_of_getElem? hU)
      have e2 : listed.toList.count false = Array.count false listed := by simp
      simp [hv]
      omega
end

end
end Go.Proofs.Ytfjdfnlkobeehaa
end
