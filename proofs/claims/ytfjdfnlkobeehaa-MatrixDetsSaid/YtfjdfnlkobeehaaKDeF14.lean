/- Part 14 of the way to the statement: the walk and what it needs. -/
import Derived.Test.YtfjdfnlkobeehaaKDeF13
import Derived.Scope
section
set_option linter.unusedVariables false
set_option linter.unusedSimpArgs false
namespace Go.Proofs.Ytfjdfnlkobeehaa

variable {P : Program}


def LW (P : Program) (c : Cx) (code : Code) (Q : Exit → PS → Prop) (st : PS) : Prop :=
  ∀ a w, R c st a w → code.wp P (fun e a w => ∃ st', Q e st' ∧ R c st' a w) a w

def seqQ (K : PS → Prop) (Q : Exit → PS → Prop) : Exit → PS → Prop
  | .normal, s => K s
  | e, s => Q e s

def blockQ (id : Nat) (Q : Exit → PS → Prop) : Exit → PS → Prop
  | .exit id', s => if id' = id then Q .normal s else Q (.exit id') s
  | e, s => Q e s

theorem LW.mono {c : Cx} {code : Code} {Q Q' : Exit → PS → Prop} {st : PS} (h : LW P c code Q st) (hq : ∀ e s, Q e s → Q' e s) : LW P c code Q' st :=
  fun a w hR => wp_mono (h a w hR) fun _ _ _ ⟨s, q, r⟩ => ⟨s, hq _ _ q, r⟩

theorem LW.seq {c : Cx} {x y : Code} {Q : Exit → PS → Prop} {st : PS} (h : LW P c x (seqQ (fun s => LW P c y Q s) Q) st) : LW P c (.seq x y) Q st := by
  intro a w hR
  refine wp_seq (wp_mono (h a w hR) ?_)
  rintro e a' w' ⟨s, q, r⟩
  cases e <;> simp only [seqQ] at q <;> simp only [Exit.then]
  · exact q a' w' r
  all_goals exact ⟨s, q, r⟩

theorem LW.skip {c : Cx} {Q : Exit → PS → Prop} {st : PS} (h : Q .normal st) : LW P c .skip Q st := fun a w hR => wp_skip ⟨st, h, hR⟩
theorem LW.label {c : Cx} {l : Nat} {Q : Exit → PS → Prop} {st : PS} (h : Q .normal st) : LW P c (.label l) Q st := fun a w hR => wp_label ⟨st, h, hR⟩
theorem LW.exit {c : Cx} {id : Nat} {Q : Exit → PS → Prop} {st : PS} (h : Q (.exit id) st) : LW P c (.exit id) Q st := fun a w hR => wp_exit ⟨st, h, hR⟩
theorem LW.ret {c : Cx} {Q : Exit → PS → Prop} {st : PS} (h : Q .ret st) : LW P c .ret Q st := fun a w hR => wp_ret ⟨st, h, hR⟩


def condC (p : PV) (x y : Prop) : Prop := ∃ b, p = .val (.bool b) ∧ ((b = true → x) ∧ (b = false → y))

theorem LW.cond {c : Cx} {x : Operand} {t e : Code} {Q : Exit → PS → Prop} {st : PS} (h : condC (st.ev x) (LW P c t Q st) (LW P c e Q st)) : LW P c (.cond x t e) Q st := by
  intro a w hR
  obtain ⟨b, hb, h1, h2⟩ := h
  obtain ⟨ρ, hr⟩ := hR
  have := hr.ev x
  rw [hb] at this
  simp only [Rep] at this
  exact wp_cond_split this (fun hb => h1 hb a w ⟨ρ, hr⟩) (fun hb => h2 hb a w ⟨ρ, hr⟩)

theorem LW.block {c : Cx} {id : Nat} {x : Code} {Q : Exit → PS → Prop} {st : PS} (h : LW P c x (blockQ id Q) st) : LW P c (.block id x) Q st := by
  intro a w hR
  refine wp_block (wp_mono (h a w hR) ?_)
  rintro e a' w' ⟨s, q, r⟩
  cases e <;> simp only [blockQ] at q <;> simp only [Exit.inBlock]
  case exit id' =>
    split at q
    · rename_i hid; rw [if_pos hid]; exact ⟨s, q, r⟩
    · rename_i hid; rw [if_neg hid]; exact ⟨s, q, r⟩
  all_goals exact ⟨s, q, r⟩


def scopeQ (Q : Exit → PS → Prop) : Exit → PS → Prop
  | .goto _, _ => False
  | e, s => Q e s
theorem LW.scope {c : Cx} {x : Code} {Q : Exit → PS → Prop} {st : PS} (h : LW P c x (scopeQ Q) st) : LW P c (.scope x) Q st := by
  intro a w hR
  refine wp_scope_straight (wp_mono (h a w hR) ?_)
  rintro e a' w' ⟨s, q, r⟩
  cases e <;> simp only [scopeQ] at q <;> simp only [Exit.noGoto]
  all_goals exact ⟨s, q, r⟩


theorem LW.loop {c : Cx} {x : Code} {Q : Exit → PS → Prop} {st : PS} (I : PS → Prop) (μ : PS → Nat) (h0 : I st)
    (h : ∀ s, I s → LW P c x (seqQ (fun s' => I s' ∧ μ s' < μ s) Q) s) : LW P c (.loop x) Q st := by
  intro a w hR
  intro b k cs
  have key : ∀ n (s : PS) a w, μ s = n → I s → R c s a w →
      ∃ e a' w', (∃ st', Q e st' ∧ R c st' a' w') ∧ Arrives P (lone (b.at a (.code x :: .inLoop x :: k)) cs w) b k cs e a' w' := by
    intro n
    induction n using Nat.strongRecOn with
    | _ n ih =>
      intro s a w hn hI hR
      obtain ⟨e, a₁, w₁, ⟨s₁, hq, hR₁⟩, harr⟩ := h s hI a w hR b (.inLoop x :: k) cs
      cases e with
      | normal =>
        obtain ⟨hI₁, hlt⟩ := hq
        obtain ⟨e₂, a₂, w₂, hq₂, harr₂⟩ := ih (μ s₁) (hn ▸ hlt) s₁ a₁ w₁ rfl hI₁ hR₁
        exact ⟨e₂, a₂, w₂, hq₂, .of_steps (Steps.trans harr (.one step_inLoop)) harr₂⟩
      | exit id => exact ⟨_, a₁, w₁, ⟨s₁, hq, hR₁⟩, .pass (x := .inLoop x) rfl (fun _ _ => .inl (by simp)) harr⟩
      | goto l => exact ⟨_, a₁, w₁, ⟨s₁, hq, hR₁⟩, .pass (x := .inLoop x) rfl (fun _ _ => .inl (by simp)) harr⟩
      | ret => exact ⟨_, a₁, w₁, ⟨s₁, hq, hR₁⟩, .pass (x := .inLoop x) rfl (fun _ _ => .inl (by simp)) harr⟩
      | panic ch => exact ⟨_, a₁, w₁, ⟨s₁, hq, hR₁⟩, .pass (x := .inLoop x) rfl (fun _ _ => .inl (by simp)) harr⟩
      | outgrown => exact ⟨_, a₁, w₁, ⟨s₁, hq, hR₁⟩, .pass (x := .inLoop x) rfl (fun _ _ => .inl (by simp)) harr⟩
  obtain ⟨e, a', w', hq, harr⟩ := key _ st a w rfl h0 hR
  exact ⟨e, a', w', hq, .of_steps (.one step_loop) harr⟩

theorem dstOK_spec {n : Nat} {ops : Array Oper} (h : dstOK n ops.toList = true) : ∀ (i : Nat) (o : Oper), ops[i]? = some o → ∀ x, o.dst = some x → x < n := by
  intro i o ho x hx
  have := List.all_eq_true.1 h o (by
    have := Array.mem_of_getElem? ho
    exact Array.mem_toList_iff.2 this)
  simpa [hx] using this

theorem LW.region {c : Cx} {id : Nat} {ops : Array Oper} {Q : Exit → PS → Prop} {st : PS} (hd : dstOK c.n ops.toList = true) (h : pOps P ops (Q .normal) ops.toList st) : LW P c (.region id ops false) Q st := by
  intro a w hR
  refine wp_region (pOps_sound (K := Q .normal) (fun s a w hK hR => ⟨s, hK, hR⟩) _ (fun i _ o ho => dstOK_spec hd i o ho) st a w hR ?_)
  have : (List.range ops.size).filterMap (ops[·]?) = ops.toList := by
    apply List.ext_getElem?
    intro i
    have key : ∀ (l : List Nat) (i : Nat), (∀ j ∈ l, j < ops.size) → (l.filterMap (ops[·]?))[i]? = (l.map fun j => ops[j]?)[i]?.join := by
      intro l
      induction l with
      | nil => intro i _; simp
      | cons j l ih =>
        intro i hl
        have hj := hl j (List.mem_cons_self ..)
        have : ops[j]? = some ops[j] := by simp [hj]
        rw [List.filterMap_cons_some this]
        cases i with
        | zero => simp [this]
        | succ i => simpa using ih i (fun k hk => hl k (List.mem_cons_of_mem _ hk))
    rw [key _ i (by simp)]
    simp only [List.getElem?_map, List.getElem?_range, Array.getElem?_toList]
    by_cases hi : i < ops.size
    · simp [hi]
    · simp [hi]
  rw [this]; exact h


theorem LW.draw {c : Cx} {n id : Nat} {ops : Array Oper} {Q : Exit → PS → Prop} {st : PS} (hm : P.follows .mixedOrders = true) (hn : c.n = n) {rc : Nat → Nat → Bool} {f : Nat} (hrc : ∀ i j, rc i j = true → reach ops f i j = true) (plan : List (Nat × List Nat)) (hk : planOK P rc n ops plan = true)
    (h : pD P ops (Q .normal) plan st) : LW P c (.region id ops true) Q st := by
  intro a w hR
  simp only [planOK, Bool.and_eq_true] at hk
  have hg : ∀ pre i js post, plan = pre ++ (i, js) :: post → ∃ o, OpGood P f c.n ops (pre.map (·.1)) i js post o := fun pre i js post e => by
    have := goOK_spec hrc plan [] hk.1 pre i js post e
    rw [hn]; simpa using this
  have hcov : ∀ i, i < ops.size → i ∈ plan.map (·.1) := fun i hi => by
    have := List.all_eq_true.1 hk.2 i (List.mem_range.2 hi)
    simpa using this
  refine wp_region_any hm (Inv.any (c := c) (K := Q .normal) (f := f) (plan := plan) hg hcov (fun st a w h1 h2 => ⟨st, h1, h2⟩) ops.size c [] [] plan _ a a _ st ?_ ⟨rfl, by simp, ?_, fun x hx => .inl ?_, fun j b hj => by simp at hj, by simp, rfl, rfl, fun _ _ _ => rfl, hR.heap rfl, (by obtain ⟨ρ, hr⟩ := hR; exact Ah.none hr.fF hr.fA), h, fun D1 x D2 e => by simp at e⟩)
  · simp [List.count_replicate]
  · intro i o ho hi
    refine absurd ?_ hi
    unfold Un
    have := (Array.getElem?_eq_some_iff.1 ho).1
    simp [this]
  · obtain ⟨pre, post, e⟩ := List.append_of_mem hx
    obtain ⟨o, g⟩ := hg pre x.1 x.2 post (by rw [e])
    have := (Array.getElem?_eq_some_iff.1 g.at_).1
    unfold Un
    simp [this]


def planAt : List (Nat × List (Nat × List Nat)) → Nat → List (Nat × List Nat)
  | [], _ => []
  | (i, p) :: r, j => if i = j then p else planAt r j


def pw (P : Program) (c : Cx) : Code → (Exit → PS → Prop) → PS → Prop
  | .skip, Q, st => Q .normal st
  | .label _, Q, st => Q .normal st
  | .region id ops draw, Q, st => if draw then pD P ops (Q .normal) (planAt c.tb id) st else pOps P ops (Q .normal) ops.toList st
  | .seq x y, Q, st => pw P c x (seqQ (pw P c y Q) Q) st
  | .cond x t e, Q, st => condC (st.ev x) (pw P c t Q st) (pw P c e Q st)
  | .block id x, Q, st => pw P c x (blockQ id Q) st
  | .loop x, Q, st => LW P c (.loop x) Q st
  | .exit id, Q, st => Q (.exit id) st
  | .ret, Q, st => Q .ret st
  | .scope x, Q, st => pw P c x (scopeQ Q) st
  | _, _, _ => False


def codeOK (P : Program) (n : Nat) (tb : List (Nat × List (Nat × List Nat))) : Code → Bool
  | .region id ops draw => if draw then P.follows .mixedOrders && planB P n ops ((planAt tb (id + 1000000)).map (·.1)) (planAt tb id) else dstOK n ops.toList
  | .seq x y => codeOK P n tb x && codeOK P n tb y
  | .cond _ x y => codeOK P n tb x && codeOK P n tb y
  | .block _ x => codeOK P n tb x
  | .scope x => codeOK P n tb x
  | _ => true

theorem pw_sound {c : Cx} : ∀ (code : Code) (Q : Exit → PS → Prop) (st : PS), codeOK P c.n c.tb code = true → pw P c code Q st → LW P c code Q st
  | .skip, Q, st, _, h => LW.skip h
  | .label _, Q, st, _, h => LW.label h
  | .region id ops draw, Q, st, hk, h => by
    cases draw with
    | true =>
      simp only [codeOK, if_true, Bool.and_eq_true] at hk
      obtain ⟨rc, f, hrc, hk2⟩ := planB_spec hk.2
      exact LW.draw hk.1 rfl hrc _ hk2 h
    | false => exact LW.region (by simpa [codeOK] using hk) h
  | .seq x y, Q, st, hk, h => by
    simp only [codeOK, Bool.and_eq_true] at hk
    refine LW.seq (LW.mono (pw_sound x _ st hk.1 h) ?_)
    intro e s
    cases e <;> simp only [seqQ]
    · exact pw_sound y Q s hk.2
    all_goals exact fun h => h
  | .cond x t e, Q, st, hk, h => by
    simp only [codeOK, Bool.and_eq_true] at hk
    obtain ⟨b, hb, h1, h2⟩ := h
    exact LW.cond ⟨b, hb, fun hb => pw_sound t Q st hk.1 (h1 hb), fun hb => pw_sound e Q st hk.2 (h2 hb)⟩
  | .block id x, Q, st, hk, h => LW.block (pw_sound x _ st (by simpa only [codeOK] using hk) h)
  | .loop x, Q, st, _, h => h
  | .exit id, Q, st, _, h => LW.exit h
  | .ret, Q, st, _, h => LW.ret h
  | .rangeFunc .., _, _, _, h => h.elim
  | .scope x, Q, st, hk, h => LW.scope (pw_sound x _ st (by simpa only [codeOK] using hk) h)
  | .goto _, _, _, _, h => h.elim
  | .refuse _, _, _, _, h => h.elim


theorem LW.walk {c : Cx} {n : Nat} {code : Code} {Q : Exit → PS → Prop} {st : PS} {tb : List (Nat × List (Nat × List Nat))} (hn : c.n = n) (ht : c.tb = tb) (hk : codeOK P n tb code = true) (h : pw P c code Q st) : LW P c code Q st :=
  pw_sound code Q st (by rw [hn, ht]; exact hk) h


def Gh (st st' : PS) : Prop := ∀ c a w, R c st a w → R c st' a w

theorem LW.ghost {c : Cx} {code : Code} {Q : Exit → PS → Prop} {st st' : PS} (hg : Gh st st') (h : LW P c code Q st') : LW P c code Q st :=
  fun a w hR => h a w (hg _ _ _ hR)


def resP (P : Program) (st : PS) : List ResultVar → Option (List PV)
  | [] => some []
  | .tmp t :: rs => (resP P st rs).map (st.sl t :: ·)
  | .cell t ty :: rs => match sizeT P ty with
    | some n => if aggT P ty || oneT P ty then
        (match ldP (aggT P ty) n st.H (st.sl t), resP P st rs with
        | some p, some ps => some (p :: ps)
        | _, _ => none) else none
    | none => none

def tupP : List PV → PV
  | [p] => p
  | ps => .tup ps


def endQ (P : Program) (rs : List ResultVar) (Q : PV → (Nat → Option (List PV)) → Nat → Prop) : Exit → PS → Prop
  | .normal, st | .ret, st => ∃ ps, resP P st rs = some ps ∧ ghK (fun r s => Q r s.H s.nx) (tupP ps) st
  | _, _ => False

theorem OwnOK.dropIt {F F' A0 : Nat → Prop} {w : World} {ρ : Nat → Nat} {H : Nat → Option (List PV)} {it : Nat → Option (ByteArray × Nat)} {nx : Nat}
    (h : OwnOK F A0 w ρ H it nx) (hF : ∀ b, F' b → F b) : OwnOK F' A0 w ρ H (fun _ => none) nx ∧ En.le (enOf A0 w ρ H it nx) (enOf A0 w ρ H (fun _ => none) nx) := by
  have hl : ∀ i, Live H (fun _ => none) i → Live H it i := by
    rintro i (hl | hi)
    · exact .inl hl
    · simp at hi
  have hle : En.le (enOf A0 w ρ H it nx) (enOf A0 w ρ H (fun _ => none) nx) :=
    ⟨fun _ _ _ _ hv => hv, fun b _ _ hA _ hA' => hA (hA'.imp id fun ⟨i, hi, e⟩ => ⟨i, hl i hi, e⟩), Nat.le_refl _, fun _ _ => rfl⟩
  refine ⟨⟨fun i hi => h.bound i (by rcases hi with hi | hi; exact .inl hi; simp at hi), fun _ _ _ _ => rfl, fun i j hi hj he => h.inj i j (hl i hi) (hl j hj) he,
    fun i cs hc hne => ?_, fun i s p hi => by simp at hi, fun i hi => ⟨fun hF' => (h.out i (hl i hi)).1 (hF _ hF'), (h.out i (hl i hi)).2⟩⟩, hle⟩
  obtain ⟨vs, e, hb, hr⟩ := h.blk i cs hc hne
  exact ⟨vs, e, hb, RepL.mono hle _ _ hr⟩

theorem resP_sound {c : Cx} {st : PS} {a : Act} {w : World} {ρ : Nat → Nat} (h : Rr c st a w ρ) : ∀ (rs : List ResultVar) (ps : List PV), resP P st rs = some ps →
    ∃ vs, (rs.mapM fun r => (match r with | .tmp t => pure (a.tmps.getD t undef) | .cell t ty => do loadVar ty (← asAddr (a.tmps.getD t undef)) : Sem Value)).run P w = .ok vs w ∧ RepL (enOf c.A0 w ρ st.H st.it st.nx) ps vs
  | [], ps, hp => by simp [resP] at hp; subst hp; exact ⟨[], by simp, by simp [RepL]⟩
  | .tmp t :: rs, ps, hp => by
    simp only [resP, Option.map_eq_some_iff] at hp
    obtain ⟨qs, hq, rfl⟩ := hp
    obtain ⟨vs, hv, hr⟩ := resP_sound h rs qs hq
    exact ⟨a.tmps.getD t undef :: vs, by rw [List.mapM_cons]; simp only [Sem.run_bind, Sem.run_pure, Result.andThen_ok, hv], by simp only [RepL]; exact ⟨h.slots t, hr⟩⟩
  | .cell t ty :: rs, ps, hp => by
    simp only [resP] at hp
    cases hs : sizeT P ty with
    | none => simp [hs] at hp
    | some n =>
      simp only [hs] at hp
      split at hp
      · rename_i ha
        split at hp
        · rename_i p qs hl hq
          simp at hp; subst hp
          obtain ⟨vs, hv, hr⟩ := resP_sound h rs qs hq
          obtain ⟨u, hu, hru⟩ := ldP_sound h hs ha (h.slots t) hl
          have hu' : (do loadVar ty (← asAddr (a.tmps.getD t undef)) : Sem Value).run P w = .ok u w := by
            generalize a.tmps.getD t undef = v at hu
            cases v with
            | pointer b =>
              cases b with
              | none => simp [Instr.loadAt, Instr.sureAddr] at hu
              | some b => simpa [Instr.loadAt, Instr.sureAddr, asAddr] using hu
            | _ => simp [Instr.loadAt, Instr.sureAddr] at hu
          exact ⟨u :: vs, by rw [List.mapM_cons]; simp only [Sem.run_bind] at hu' ⊢; rw [hu']; simp only [Result.andThen_ok, Sem.run_pure, hv], by simp only [RepL]; exact ⟨hru, hr⟩⟩
        · simp at hp
      · simp at hp


theorem results_sound {c : Cx} {st : PS} {a : Act} {w : World} {ρ : Nat → Nat} (h : Rr c st a w ρ) {fn : Func} {ps : List PV} (hp : resP P st fn.results.toList = some ps) :
    ∃ v, (results fn a.tmps).run P w = .ok v w ∧ Rep (enOf c.A0 w ρ st.H st.it st.nx) (tupP ps) v := by
  obtain ⟨vs, hv, hr⟩ := resP_sound h _ _ hp
  have hrun : (fn.results.mapM fun r => (match r with | .tmp t => pure (a.tmps.getD t undef) | .cell t ty => do loadVar ty (← asAddr (a.tmps.getD t undef)) : Sem Value)).run P w = .ok vs.toArray w := by
    rw [Array.mapM_eq_mapM_toList, Sem.run_map, hv]; rfl
  refine ⟨if h : vs.toArray.size = 1 then vs.toArray[0] else .tuple vs.toArray, ?_, ?_⟩
  · unfold results
    rw [Sem.run_bind]
    exact congrArg (fun r : Result (Array Value) => r.andThen fun a w' => (pure (if h : a.size = 1 then a[0] else .tuple a) : Sem Value).run P w') hrun
  · have hl := RepL.length hr
    cases ps with
    | nil => cases vs <;> simp [RepL] at hr; exact ⟨[], by simp, by simp [RepL]⟩
    | cons p ps =>
      cases ps with
      | nil =>
        cases vs with
        | nil => simp [RepL] at hr
        | cons v vs =>
          cases vs with
          | nil => simp only [RepL] at hr; simpa [tupP] using hr.1
          | cons u us => simp [RepL] at hr
      | cons q qs =>
        cases vs with
        | nil => simp at hl
        | cons v vs =>
          cases vs with
          | nil => simp at hl
          | cons u us =>
            simp only [tupP, Rep]
            exact ⟨v :: u :: us, by simp, hr⟩


def begP (args : List PV) (H : Nat → Option (List PV)) (nx : Nat) : PS :=
  { sl := fun t => args.getD t (.val undef), H := H, it := fun _ => none, nx := nx }


theorem PCalls.enter {f : FuncId} {fn : Func} {code : Code} {n : Nat} {rs : List ResultVar} {args : List PV} {H : Nat → Option (List PV)} {nx : Nat} {Q : PV → (Nat → Option (List PV)) → Nat → Prop}
    (hf : P.funcs[f]? = some fn) (hb : fn.body = some code) (hnt : fn.ntmps = n) (hrs : fn.results.toList = rs) {tb : List (Nat × List (Nat × List Nat))} (hn : okFn P f = true) (hk : codeOK P n tb code = true) (hlen : args.length ≤ n)
    (h : ∀ c : Cx, c.n = n → c.tb = tb → pw P c code (endQ P rs Q) (begP args H nx)) : PCalls P f args H nx Q := by
  subst hnt; subst hrs
  refine ⟨hn, fun w vs ρ A0 hA0 hown hargs => ?_⟩
  refine calls_of_wp hf hb ?_
  let c : Cx := { F := fun b => b < w.heap.size ∧ ¬ OwnB ρ H (fun _ => none) b, w0 := w, A0 := A0, ρ0 := ρ, k := nx, n := fn.ntmps, tb := tb }
  have hl := RepL.length hargs
  have hR : Rr c (begP args H nx) { tmps := vs.toArray ++ Array.replicate (fn.ntmps - vs.toArray.size) undef, defers := [] } w ρ := by
    refine ⟨⟨hown.bound, hown.excl, hown.inj, hown.blk, hown.itb, fun i hi => ⟨fun hF => hF.2 ⟨i, hi, rfl⟩, (hown.out i hi).2⟩⟩, fun t => ?_, by simp [c]; omega, rfl, fun b _ => rfl, Nat.le_refl _, Nat.le_refl _, fun i _ => rfl, fun b hb => hb.1, hA0, Sw.refl w⟩
    simp only [begP]
    rcases Nat.lt_or_ge t args.length with ht | ht
    · obtain ⟨v, hv, hr⟩ := RepL.get hargs t args[t] (by simp [ht])
      have e1 : args.getD t (.val undef) = args[t] := by simp [ht]
      have e2 : (vs.toArray ++ Array.replicate (fn.ntmps - vs.toArray.size) undef).getD t undef = v := by
        rw [Array.getD_eq_getD_getElem?, Array.getElem?_append_left (by simp; omega)]
        simp [hv]
      rw [e1, e2]; exact hr
    · have e1 : args.getD t (.val undef) = .val undef := by simp [List.getElem?_eq_none ht]
      have e2 : (vs.toArray ++ Array.replicate (fn.ntmps - vs.toArray.size) undef).getD t undef = undef := by
        rw [Array.getD_eq_getD_getElem?, Array.getElem?_append_right (by simp; omega)]
        simp only [Array.getElem?_replicate]
        split <;> rfl
      rw [e1, e2]; simp [Rep]
  refine wp_mono (LW.walk (c := c) rfl rfl hk (h c rfl rfl) _ w ⟨ρ, hR⟩) ?_
  have fin : ∀ st a w', (∃ ps, resP P st fn.results.toList = some ps ∧ ghK (fun r s => Q r s.H s.nx) (tupP ps) st) → R c st a w' →
      a.defers = [] ∧ ∃ v, (results fn a.tmps).run P w' = .ok v w' ∧ ∃ v_1 r H' nx' ρ', Ending.returned v = .returned v_1 ∧ Q r H' nx' ∧ nx ≤ nx' ∧ (∀ i, i < nx → ρ' i = ρ i) ∧
      OwnOK (fun b => b < w.heap.size ∧ ¬ OwnB ρ H (fun _ => none) b) A0 w' ρ' H' (fun _ => none) nx' ∧ Rep (enOf A0 w' ρ' H' (fun _ => none) nx') r v_1 ∧
      (∀ b, b < w.heap.size → ¬ OwnB ρ H (fun _ => none) b → w'.heap[b]? = w.heap[b]?) ∧ w.heap.size ≤ w'.heap.size ∧ Sw w w' := by
    rintro st a w' ⟨ps, hps, r1, st1, hg, hQ⟩ ⟨ρ0, hR'⟩
    obtain ⟨v, hv, hrep⟩ := results_sound hR' hps
    obtain ⟨ρ', hr, hrep⟩ := hg c a w' v ⟨ρ0, hR', hrep⟩
    obtain ⟨ho, hle⟩ := hr.own.dropIt (fun b hb => hb)
    exact ⟨hR'.defers, v, hv, v, _, _, _, ρ', rfl, hQ, hr.ids, hr.ρk, ho, Rep.mono hle _ _ hrep, fun b h1 h2 => hr.frame b ⟨h1, h2⟩, hr.grow, hr.sw⟩
  rintro e a w' ⟨st, hq, hR'⟩
  cases e with
  | normal => exact fin st a w' hq hR'
  | ret => exact fin st a w' hq hR'
  | exit id => exact hq.elim
  | goto l => exact hq.elim
  | panic ch => exact hq.elim
  | outgrown => exact hq.elim


theorem LW.both {A B : Prop} {c : Cx} {code : Code} {Q : Exit → PS → Prop} {st1 st2 : PS} (I : PS → Prop) (h1 : A → I st1) (h2 : B → I st2) (h : ∀ s, I s → LW P c code Q s) : (A → LW P c code Q st1) ∧ (B → LW P c code Q st2) :=
  ⟨fun a => h _ (h1 a), fun b => h _ (h2 b)⟩


theorem LW.loopW {c : Cx} {n : Nat} {x : Code} {Q : Exit → PS → Prop} {st : PS} {tb : List (Nat × List (Nat × List Nat))} (hn : c.n = n) (ht : c.tb = tb) (hk : codeOK P n tb x = true) (I : PS → Prop) (μ : PS → Nat) (h0 : I st)
    (h : ∀ s, I s → pw P c x (seqQ (fun s' => I s' ∧ μ s' < μ s) Q) s) : LW P c (.loop x) Q st :=
  LW.loop I μ h0 fun s hs => LW.walk hn ht hk (h s hs)

end Go.Proofs.Ytfjdfnlkobeehaa
end
