/- Part 17 of the way to the statement: the walk and what it needs. -/
import Derived.Test.YtfjdfnlkobeehaaKDeF16
section
set_option linter.unusedVariables false
set_option linter.unusedSimpArgs false
namespace Go.Proofs.Ytfjdfnlkobeehaa

variable {P : Program}


theorem Rr.drop {c : Cx} {st : PS} {a : Act} {w : World} {ρ : Nat → Nat} (h : Rr c st a w ρ) {H' : Nat → Option (List PV)} {it' : Nat → Option (ByteArray × Nat)}
    (hH : ∀ i, H' i = st.H i ∨ H' i = none) (hI : ∀ i, it' i = st.it i ∨ it' i = none) :
    Rr c { st with H := H', it := it' } a w ρ ∧ En.le (enOf c.A0 w ρ st.H st.it st.nx) (enOf c.A0 w ρ H' it' st.nx) := by
  have hl : ∀ i, Live H' it' i → Live st.H st.it i := by
    rintro i (⟨cs, hc, hne⟩ | hi)
    · rcases hH i with e | e
      · exact .inl ⟨cs, by rw [← e]; exact hc, hne⟩
      · simp [e] at hc
    · rcases hI i with e | e
      · exact .inr (by rw [← e]; exact hi)
      · exact absurd e hi
  have hle : En.le (enOf c.A0 w ρ st.H st.it st.nx) (enOf c.A0 w ρ H' it' st.nx) :=
    ⟨fun _ _ _ _ hv => hv, fun b _ _ hA _ hA' => hA (hA'.imp id fun ⟨i, hi, e⟩ => ⟨i, hl i hi, e⟩), Nat.le_refl _, fun _ _ => rfl⟩
  refine ⟨⟨⟨fun i hi => h.own.bound i ?_, fun i cs hc hne => ?_, fun i j hi hj he => h.own.inj i j (hl i hi) (hl j hj) he, fun i cs hc hne => ?_, fun i s p hi => ?_, fun i hi => h.own.out i (hl i hi)⟩,
    fun t => Rep.mono hle _ _ (h.slots t), h.size, h.defers, h.frame, h.grow, h.ids, h.ρk, h.fF, h.fA, h.sw⟩, hle⟩
  · rcases hi with hi | hi
    · rcases hH i with e | e
      · exact .inl (by rw [← e]; exact hi)
      · exact absurd e hi
    · rcases hI i with e | e
      · exact .inr (by rw [← e]; exact hi)
      · exact absurd e hi
  · have hc : H' i = some cs := hc
    rcases hI i with e | e
    · rcases hH i with e2 | e2
      · show it' i = none
        rw [e]; exact h.own.excl i cs (by rw [← e2]; exact hc) hne
      · simp [e2] at hc
    · exact e
  · have hc : H' i = some cs := hc
    rcases hH i with e2 | e2
    · obtain ⟨vs, e, hb, hr⟩ := h.own.blk i cs (by rw [← e2]; exact hc) hne
      exact ⟨vs, e, hb, RepL.mono hle _ _ hr⟩
    · simp [e2] at hc
  · have hi : it' i = some (s, p) := hi
    rcases hI i with e | e
    · exact h.own.itb i s p (by rw [← e]; exact hi)
    · simp [e] at hi


def frz (D : Nat → Bool) (H : Nat → Option (List PV)) : Nat → PV → Option PV
  | 0, p => if flat p then some p else none
  | d + 1, .ref id off n cap sz => if D id then (H id).bind fun cs => if off + n * sz ≤ cs.length then (((cs.drop off).take (n * sz)).mapM (frz D H d)).map (.sl n) else none else none
  | d + 1, .ptr id off => if D id then (H id).bind fun cs => ((cs.drop off).mapM (frz D H d)).map .rp else none
  | d + 1, .agg cs => (cs.mapM (frz D H d)).map .agg
  | d + 1, .tup cs => (cs.mapM (frz D H d)).map .tup
  | _ + 1, p => if flat p then some p else none

def dropH (D : Nat → Bool) (H : Nat → Option (List PV)) : Nat → Option (List PV) := fun i => if D i then none else H i

theorem frz_sound {c : Cx} {st : PS} {a : Act} {w : World} {ρ : Nat → Nat} (h : Rr c st a w ρ) (D : Nat → Bool) :
    ∀ (d : Nat) (p q : PV) (v : Value), frz D st.H d p = some q → Rep (enOf c.A0 w ρ st.H st.it st.nx) p v → Rep (enOf c.A0 w ρ (dropH D st.H) st.it st.nx) q v := by
  obtain ⟨_, hle⟩ := h.drop (H' := dropH D st.H) (it' := st.it) (fun i => by unfold dropH; split; exact .inr rfl; exact .inl rfl) (fun i => .inl rfl)
  have hflat : ∀ (p q : PV) (v : Value), (if flat p then some p else none) = some q → Rep (enOf c.A0 w ρ st.H st.it st.nx) p v → Rep (enOf c.A0 w ρ (dropH D st.H) st.it st.nx) q v := by
    intro p q v hq hr
    split at hq
    · simp at hq; subst hq; exact Rep.mono hle _ _ hr
    · simp at hq
  intro d
  induction d with
  | zero => intro p q v hq hr; exact hflat p q v hq hr
  | succ d ih =>
    have hL : ∀ (ps qs : List PV) (vs : List Value), ps.mapM (frz D st.H d) = some qs → RepL (enOf c.A0 w ρ st.H st.it st.nx) ps vs → RepL (enOf c.A0 w ρ (dropH D st.H) st.it st.nx) qs vs := by
      intro ps
      induction ps with
      | nil => intro qs vs hq hr; simp at hq; subst hq; cases vs <;> simp_all [RepL]
      | cons p ps ihl =>
        intro qs vs hq hr
        cases vs with
        | nil => simp [RepL] at hr
        | cons v vs =>
          rw [List.mapM_cons] at hq
          simp only [RepL] at hr
          cases h1 : frz D st.H d p with
          | none => simp [h1] at hq
          | some q =>
            cases h2 : ps.mapM (frz D st.H d) with
            | none => simp [h1, h2] at hq
            | some qs' =>
              simp [h1, h2] at hq; subst hq
              simp only [RepL]
              exact ⟨ih p q v h1 hr.1, ihl qs' vs h2 hr.2⟩
    
    have hrow : ∀ (id : Nat) (cs : List PV), D id = true → st.H id = some cs → ∀ (off k : Nat) (qs : List PV), (((cs.drop off).take k).mapM (frz D st.H d)) = some qs →
        qs = [] ∨ (¬ (enOf c.A0 w ρ (dropH D st.H) st.it st.nx).A (ρ id) ∧ Row (enOf c.A0 w ρ (dropH D st.H) st.it st.nx) (ρ id) off qs) := by
      intro id cs hD hc off k qs hq
      by_cases hne : cs = []
      · subst hne; simp at hq; exact .inl hq
      · refine .inr ⟨?_, ?_⟩
        · have hid : Live st.H st.it id := .inl ⟨cs, hc, hne⟩
          rintro (h0 | ⟨i, hl, he⟩)
          · exact (h.own.out id hid).2 h0
          · have hl' : Live st.H st.it i := by
              rcases hl with ⟨ds, hd, hn⟩ | hi
              · unfold dropH at hd; split at hd
                · simp at hd
                · exact .inl ⟨ds, hd, hn⟩
              · exact .inr hi
            have := h.own.inj i id hl' hid he
            subst this
            rcases hl with ⟨ds, hd, hn⟩ | hi
            · simp [dropH, hD] at hd
            · exact hi (h.own.excl _ cs hc hne)
        · obtain ⟨vs, e, hb, hr⟩ := h.own.blk id cs hc hne
          have h1 := hL _ qs ((vs.toList.drop off).take k) hq (RepL.take k (RepL.drop off hr))
          refine Row.of_block (E := enOf c.A0 w ρ (dropH D st.H) st.it st.nx) hb qs off _ h1 fun i hi => ?_
          simp at hi
          rw [List.getElem?_take]
          rw [if_pos (by omega)]
          simp
    intro p q v hq hr
    cases p with
    | ref id off n cap sz =>
      simp only [frz] at hq
      split at hq
      · rename_i hD
        cases hc : st.H id with
        | none => simp [hc] at hq
        | some cs =>
          simp only [hc, Option.bind_some] at hq
          split at hq
          · cases hm : ((cs.drop off).take (n * sz)).mapM (frz D st.H d) with
            | none => simp [hm] at hq
            | some qs =>
              simp [hm] at hq; subst hq
              simp only [Rep] at hr
              obtain ⟨hid, hle', rfl | ⟨rfl, rfl, rfl⟩⟩ := hr
              · simp only [Rep]
                exact .inr ⟨ρ id, off, cap, rfl, hle', hrow id cs hD hc off _ qs hm⟩
              · simp at hm; subst hm; simp [Rep]
          · simp at hq
      · simp at hq
    | ptr id off =>
      simp only [frz] at hq
      split at hq
      · rename_i hD
        cases hc : st.H id with
        | none => simp [hc] at hq
        | some cs =>
          simp only [hc, Option.bind_some] at hq
          cases hm : (cs.drop off).mapM (frz D st.H d) with
          | none => simp [hm] at hq
          | some qs =>
            simp [hm] at hq; subst hq
            simp only [Rep] at hr
            obtain ⟨hid, rfl⟩ := hr
            simp only [Rep]
            exact ⟨ρ id, off, rfl, hrow id cs hD hc off (cs.drop off).length qs (by rw [List.take_length]; exact hm)⟩
      · simp at hq
    | agg cs =>
      simp only [frz] at hq
      cases hm : cs.mapM (frz D st.H d) with
      | none => simp [hm] at hq
      | some qs =>
        simp [hm] at hq; subst hq
        simp only [Rep] at hr ⊢
        obtain ⟨vs, rfl, hr⟩ := hr
        exact ⟨vs, rfl, hL _ _ _ hm hr⟩
    | tup cs =>
      simp only [frz] at hq
      cases hm : cs.mapM (frz D st.H d) with
      | none => simp [hm] at hq
      | some qs =>
        simp [hm] at hq; subst hq
        simp only [Rep] at hr ⊢
        obtain ⟨vs, rfl, hr⟩ := hr
        exact ⟨vs, rfl, hL _ _ _ hm hr⟩
    | _ => exact hflat _ q v hq hr

theorem Gh.refl (st : PS) : Gh st st := fun _ _ _ h => h
theorem Gh.freeze {st : PS} (t : Nat) (D : Nat → Bool) (d : Nat) {q : PV} (hq : frz D st.H d (st.sl t) = some q) : Gh st { st with sl := upd st.sl t q, H := dropH D st.H } := by
  rintro c a w ⟨ρ, h⟩
  obtain ⟨h', hle⟩ := h.drop (H' := dropH D st.H) (it' := st.it) (fun i => by unfold dropH; split; exact .inr rfl; exact .inl rfl) (fun i => .inl rfl)
  refine ⟨ρ, h'.own, fun u => ?_, h'.size, h'.defers, h'.frame, h'.grow, h'.ids, h'.ρk, h'.fF, h'.fA, h'.sw⟩
  by_cases hu : u = t
  · subst hu
    show Rep _ (upd st.sl u q u) _
    rw [upd_self]
    exact frz_sound h D d _ q _ hq (h.slots u)
  · show Rep _ (upd st.sl t q u) _
    rw [upd_ne _ _ hu]; exact h'.slots u


theorem Gh.nil {st : PS} (t sz : Nat) (ht : st.sl t = .val (.slice none 0 0)) :
    Gh st { st with sl := upd st.sl t (.ref st.nx 0 0 0 sz), H := upd st.H st.nx (some []), nx := st.nx + 1 } := by
  rintro c a w ⟨ρ, h⟩
  have hnone : st.H st.nx = none := by
    cases hc : st.H st.nx with
    | none => rfl
    | some x => exact absurd (h.own.bound st.nx (.inl (by simp [hc]))) (Nat.lt_irrefl _)
  have hl : ∀ i, Live (upd st.H st.nx (some [])) st.it i → Live st.H st.it i := by
    rintro i (⟨cs, hc, hne⟩ | hi)
    · by_cases hx : i = st.nx
      · subst hx; rw [upd_self] at hc; simp at hc; exact absurd hc.symm (by simpa using hne)
      · rw [upd_ne _ _ hx] at hc; exact .inl ⟨cs, hc, hne⟩
    · exact .inr hi
  have hle : En.le (enOf c.A0 w ρ st.H st.it st.nx) (enOf c.A0 w ρ (upd st.H st.nx (some [])) st.it (st.nx + 1)) :=
    ⟨fun _ _ _ _ hv => hv, fun b _ _ hA _ hA' => hA (hA'.imp id fun ⟨i, hi, e⟩ => ⟨i, hl i hi, e⟩), Nat.le_succ _, fun _ _ => rfl⟩
  refine ⟨ρ, ⟨fun i hi => ?_, fun i cs hc hne => ?_, fun i j hi hj he => h.own.inj i j (hl i hi) (hl j hj) he, fun i cs hc hne => ?_, h.own.itb, fun i hi => h.own.out i (hl i hi)⟩,
    fun u => ?_, h.size, h.defers, h.frame, h.grow, Nat.le_succ_of_le h.ids, h.ρk, h.fF, h.fA, h.sw⟩
  · by_cases hx : i = st.nx
    · exact hx ▸ Nat.lt_succ_self _
    · simp only [upd_ne _ _ hx] at hi; exact Nat.lt_succ_of_lt (h.own.bound i hi)
  · have hc : upd st.H st.nx (some []) i = some cs := hc
    by_cases hx : i = st.nx
    · subst hx; rw [upd_self] at hc; simp at hc; exact absurd hc.symm (by simpa using hne)
    · rw [upd_ne _ _ hx] at hc; exact h.own.excl i cs hc hne
  · have hc : upd st.H st.nx (some []) i = some cs := hc
    by_cases hx : i = st.nx
    · subst hx; rw [upd_self] at hc; simp at hc; exact absurd hc.symm (by simpa using hne)
    · rw [upd_ne _ _ hx] at hc
      obtain ⟨vs, e, hb, hr⟩ := h.own.blk i cs hc hne
      exact ⟨vs, e, hb, RepL.mono hle _ _ hr⟩
  · by_cases hu : u = t
    · subst hu
      show Rep _ (upd st.sl u _ u) _
      rw [upd_self]
      have := h.slots u
      rw [ht] at this
      simp only [Rep] at this
      simp only [Rep]
      exact ⟨Nat.lt_succ_self _, Nat.le_refl _, .inr ⟨trivial, trivial, this⟩⟩
    · show Rep _ (upd st.sl t _ u) _
      rw [upd_ne _ _ hu]; exact Rep.mono hle _ _ (h.slots u)

theorem ghK_intro {K : PV → PS → Prop} {r : PV} {st : PS} (h : K r st) : ghK K r st := ⟨r, st, fun _ _ _ _ h => h, h⟩

mutual
theorem shift_flat (k : Nat) : ∀ (p : PV), flat p = true → shift k p = p
  | .any, _ => rfl
  | .val _, _ => rfl
  | .sl n cs, h => by simp only [flat] at h; simp only [shift]; rw [shiftL_flat k cs h]
  | .ref .., h => by simp [flat] at h
  | .ptr .., h => by simp [flat] at h
  | .rp cs, h => by simp only [flat] at h; simp only [shift]; rw [shiftL_flat k cs h]
  | .agg cs, h => by simp only [flat] at h; simp only [shift]; rw [shiftL_flat k cs h]
  | .tup cs, h => by simp only [flat] at h; simp only [shift]; rw [shiftL_flat k cs h]
  | .fn f cs, h => by simp only [flat] at h; simp only [shift]; rw [shiftL_flat k cs h]
theorem shiftL_flat (k : Nat) : ∀ (cs : List PV), flatL cs = true → shiftL k cs = cs
  | [], _ => rfl
  | c :: cs, h => by
    simp only [flatL, Bool.and_eq_true] at h
    simp only [shiftL]; rw [shift_flat k c h.1, shiftL_flat k cs h.2]
end


theorem GhV.tree {st : PS} (hb : WF st) {H' : Nat → Option (List PV)} {n' : Nat} {r q : PV} (d : Nat) (hq : frz (fun i => decide (st.nx ≤ i)) (joinH st.H st.nx H') d r = some q) :
    GhV r { st with H := joinH st.H st.nx H', nx := st.nx + n' } q (st.withH st.H (st.nx + n')) := by
  rintro c a w v ⟨ρ, h, hr⟩
  have hH : dropH (fun i => decide (st.nx ≤ i)) (joinH st.H st.nx H') = st.H := by
    funext i
    unfold dropH joinH
    rcases Nat.lt_or_ge i st.nx with hi | hi
    · simp [hi, Nat.not_le.2 hi]
    · simp [hi, hb i hi]
  have h1 := frz_sound h (fun i => decide (st.nx ≤ i)) d r q v hq hr
  have h2 := (h.drop (H' := dropH (fun i => decide (st.nx ≤ i)) (joinH st.H st.nx H')) (it' := st.it) (fun i => by unfold dropH; split; exact .inr rfl; exact .inl rfl) (fun i => .inl rfl)).1
  simp only [] at h1 h2
  rw [hH] at h1 h2
  exact ⟨ρ, h2, h1⟩

theorem GhV.frz {st : PS} {r q : PV} (D : Nat → Bool) (d : Nat) (hq : Ytfjdfnlkobeehaa.frz D st.H d r = some q) : GhV r st q { st with H := dropH D st.H } := by
  rintro c a w v ⟨ρ, h, hr⟩
  exact ⟨ρ, (h.drop (H' := dropH D st.H) (it' := st.it) (fun i => by unfold dropH; split; exact .inr rfl; exact .inl rfl) (fun i => .inl rfl)).1, frz_sound h D d r q v hq hr⟩


def treeQ (Q : PV → Prop) (r : PV) (_ : Nat → Option (List PV)) (_ : Nat) : Prop := flat r = true ∧ Q r

def isV (x r : PV) : Prop := r = x

def PT (P : Program) (f : FuncId) (args : List PV) (Q : PV → Prop) : Prop :=
  PCalls P f args (fun _ => none) 0 (treeQ Q)

theorem PT.mono {f : FuncId} {args : List PV} {Q Q' : PV → Prop} (h : PT P f args Q) (hq : ∀ r, Q r → Q' r) : PT P f args Q' :=
  PCalls.mono h fun _ _ _ ⟨h1, h2⟩ => ⟨h1, hq _ h2⟩


theorem pCall_tree {f : FuncId} {args args' : List PV} {st : PS} {K : PV → PS → Prop} {Q : PV → Prop} (hv : args.map (view st.H) = args') (hfl : flatL args = true) (hf : flatL args' = true)
    (h : PT P f args' Q) (hk : ∀ r n, flat r = true → Q r → st.nx ≤ n → K r (st.withH st.H n)) : pCall P f args st K := by
  refine ⟨_, _, GhA.refl _ _, .inl ⟨by rw [hv]; exact hf, ?_⟩⟩
  rw [hv]
  refine PCalls.mono h fun r H' n ⟨h1, h2⟩ => ⟨fun e => by rw [hfl] at e; simp at e, fun hwf _ => ?_⟩
  rw [shift_flat _ _ h1]
  refine ⟨r, _, GhV.tree hwf 0 (by simp [frz, h1]), hk r _ h1 h2 (by omega)⟩


theorem pCall_view {f : FuncId} {args args' : List PV} {st : PS} {K : PV → PS → Prop} {Q : PV → Prop} (hv : args.map (view st.H) = args') (hf : flatL args' = true) (hcl : flatL args = true ∨ ∀ r, Q r → closed r = true)
    (h : PT P f args' Q) (hk : ∀ r n, flat r = true → Q r → st.nx ≤ n → K r (st.withH st.H n)) : pCall P f args st K := by
  rcases hcl with hcl | hcl
  · exact pCall_tree hv hcl hf h hk
  · refine ⟨_, _, GhA.refl _ _, .inl ⟨by rw [hv]; exact hf, ?_⟩⟩
    rw [hv]
    refine ⟨h.1, fun w vs ρ A0 h1 h2 h3 => (h.2 w vs ρ A0 h1 h2 h3).mono ?_⟩
    rintro e w' ⟨v, r, H', nx', ρ', he, ⟨hfl, hq⟩, hnx, hρ, hown, hrep, hframe, hsize, hsw⟩
    refine ⟨v, r, fun _ => none, nx', ρ', he, ⟨fun _ => ⟨hcl r hq, fun i cs hi => by simp at hi⟩, fun hwf _ => ?_⟩, hnx, hρ, ?_, ?_, hframe, hsize, hsw⟩
    · rw [shift_flat _ _ hfl]
      have e : joinH st.H st.nx (fun _ => none) = st.H := by
        funext i
        unfold joinH
        split
        · rfl
        · rename_i hi; rw [hwf i (Nat.not_lt.1 hi)]; rfl
      rw [e]
      exact ghK_intro (hk r (st.nx + nx') hfl hq (by omega))
    · exact ⟨fun i hi => by simp at hi, fun i cs hi => by simp at hi, fun i j hi => by rcases hi with ⟨cs, hcs, _⟩ | hi <;> simp at *,
        fun i cs hi => by simp at hi, fun i s p hi => by simp at hi, fun i hi => by rcases hi with ⟨cs, hcs, _⟩ | hi <;> simp at *⟩
    · refine Rep.mono (E := enOf A0 w' ρ' H' (fun _ => none) nx') (E' := enOf A0 w' ρ' (fun _ => none) (fun _ => none) nx') ⟨fun _ _ _ _ hv => hv, fun b _ _ hA _ hA' => hA ?_, Nat.le_refl _, fun _ _ => rfl⟩ _ _ hrep
      rcases hA' with h0 | ⟨i, hl, e⟩
      · exact .inl h0
      · rcases hl with ⟨cs, hcs, _⟩ | hi <;> simp at *


theorem pCall_vw {f : FuncId} {args args' : List PV} {st : PS} {K : PV → PS → Prop} {Q : PV → Prop} {m : Nat} (hx : (args.map (view st.H) = args' ∧ flatL args' = true) ∧ (flatL args = true ∨ ∀ r, Q r → closed r = true) ∧ st.nx = m)
    (h : PT P f args' Q) (hk : ∀ r n, flat r = true → Q r → m ≤ n → K r (st.withH st.H n)) : pCall P f args st K :=
  pCall_view hx.1.1 hx.1.2 hx.2.1 h fun r n h1 h2 h3 => hk r n h1 h2 (hx.2.2 ▸ h3)

theorem frzL_sound {c : Cx} {st : PS} {a : Act} {w : World} {ρ : Nat → Nat} (h : Rr c st a w ρ) (D : Nat → Bool) (d : Nat) :
    ∀ (ps qs : List PV) (vs : List Value), ps.mapM (Ytfjdfnlkobeehaa.frz D st.H d) = some qs → RepL (enOf c.A0 w ρ st.H st.it st.nx) ps vs → RepL (enOf c.A0 w ρ (dropH D st.H) st.it st.nx) qs vs
  | [], qs, vs, hq, hr => by
    simp at hq; subst hq
    cases vs <;> simp_all [RepL]
  | p :: ps, qs, [], hq, hr => by simp [RepL] at hr
  | p :: ps, qs, v :: vs, hq, hr => by
    rw [List.mapM_cons] at hq
    simp only [RepL] at hr
    cases h1 : Ytfjdfnlkobeehaa.frz D st.H d p with
    | none => simp [h1] at hq
    | some q =>
      cases h2 : ps.mapM (Ytfjdfnlkobeehaa.frz D st.H d) with
      | none => simp [h1, h2] at hq
      | some qs' =>
        simp [h1, h2] at hq; subst hq
        simp only [RepL]
        exact ⟨frz_sound h D d p q v h1 hr.1, frzL_sound h D d ps qs' vs h2 hr.2⟩

theorem pCall_frz {f : FuncId} {args args' args2 : List PV} {st : PS} {K : PV → PS → Prop} {Q : PV → Prop} (D : Nat → Bool) (d : Nat) (hq : args.mapM (Ytfjdfnlkobeehaa.frz D st.H d) = some args') (hfl : flatL args' = true) (hv : args'.map (view (dropH D st.H)) = args2) (hf : flatL args2 = true)
    (h : PT P f args2 Q) (hk : ∀ r n, flat r = true → Q r → st.nx ≤ n → K r (st.withH (dropH D st.H) n)) : pCall P f args st K := by
  have h1 : pCall P f args' { st with H := dropH D st.H } K := pCall_tree hv hfl hf h hk
  obtain ⟨args1, st1, hg, hc⟩ := h1
  refine ⟨args1, st1, fun c a w vs hR => hg c a w vs ?_, hc⟩
  obtain ⟨ρ, hR, hr⟩ := hR
  exact ⟨ρ, (hR.drop (H' := dropH D st.H) (it' := st.it) (fun i => by unfold dropH; split; exact .inr rfl; exact .inl rfl) (fun i => .inl rfl)).1, frzL_sound hR D d _ _ _ hq hr⟩

theorem resP_nil {st : PS} : resP P st [] = some [] := rfl
theorem resP_tmp {st : PS} {t : Nat} {rs : List ResultVar} : resP P st (.tmp t :: rs) = (resP P st rs).map (st.sl t :: ·) := rfl
theorem resP_cell {st : PS} {t : Nat} {ty : TypeId} {rs : List ResultVar} : resP P st (.cell t ty :: rs) = ((sizeT P ty).bind fun n => if aggT P ty || oneT P ty then ldP (aggT P ty) n st.H (st.sl t) else none).bind fun p => (resP P st rs).map (p :: ·) := by
  simp only [resP]
  cases sizeT P ty with
  | none => rfl
  | some n =>
    simp only [Option.bind_some]
    by_cases h : (aggT P ty || oneT P ty) = true
    · rw [if_pos h, if_pos h]
      cases ldP (aggT P ty) n st.H (st.sl t) <;> cases resP P st rs <;> rfl
    · rw [if_neg h, if_neg h]; rfl
attribute [go_sem] resP_nil resP_tmp resP_cell

theorem end_plain {rs : List ResultVar} {Q : PV → (Nat → Option (List PV)) → Nat → Prop} {st : PS} {ps : List PV} (h : resP P st rs = some ps) (hq : Q (tupP ps) st.H st.nx) : endQ P rs Q .ret st :=
  ⟨ps, h, ghK_intro hq⟩


theorem end_tree {rs : List ResultVar} {Q : PV → Prop} {st : PS} {ps : List PV} {q : PV} (d : Nat) (h : resP P st rs = some ps) (hf : frz (fun _ => true) st.H d (tupP ps) = some q) (hfl : flat q = true) (hq : Q q) :
    endQ P rs (treeQ Q) .ret st :=
  ⟨ps, h, q, _, GhV.frz _ d hf, hfl, hq⟩

end Go.Proofs.Ytfjdfnlkobeehaa
end
