/- Part 10 of the way to the statement: the walk and what it needs. -/
import Derived.Test.YtfjdfnlkobeehaaKDeF9
section
set_option linter.unusedVariables false
set_option linter.unusedSimpArgs false
namespace Go.Proofs.Ytfjdfnlkobeehaa

variable {P : Program}


structure Tr (k : Nat) (cl : Bool) (E E' : En) : Prop where
  nx : E.nx + k ≤ E'.nx
  ρ : ∀ i, i < E.nx → E'.ρ (i + k) = E.ρ i
  cell : cl = false → ∀ b o v, ¬ E.A b → E.w.cell? ⟨b, o, none⟩ = some v → E'.w.cell? ⟨b, o, none⟩ = some v ∧ ¬ E'.A b

mutual
theorem Rep.tr {k : Nat} {cl : Bool} {E E' : En} (h : Tr k cl E E') : ∀ (p : PV) (v : Value), (cl = true → closed p = true) → Rep E p v → Rep E' (shift k p) v
  | .any, _, _, _ => by simp [Rep, shift]
  | .val x, v, _, hr => by simpa [Rep, shift] using hr
  | .sl n cs, v, hc, hr => by
    simp only [Rep, shift] at hr ⊢
    rcases hr with ⟨rfl, rfl, a, rfl⟩ | ⟨b, o, cap, rfl, hcap, hr⟩
    · exact .inl ⟨rfl, rfl, a, rfl⟩
    refine .inr ⟨b, o, cap, rfl, hcap, ?_⟩
    cases cs with
    | nil => exact .inl rfl
    | cons c cs =>
      have hcl : cl = false := by
        cases cl with
        | false => rfl
        | true => have := hc rfl; simp [closed] at this
      rcases hr with hr | ⟨hA, hr⟩
      · simp at hr
      have hr' := hr
      simp only [Row] at hr'
      obtain ⟨⟨x, hx, _⟩, _⟩ := hr'
      refine .inr ⟨(h.cell hcl _ _ _ hA hx).2, Row.tr h hcl b o _ hA hr⟩
  | .ref id off n cap sz, v, _, hr => by
    simp only [Rep, shift] at hr ⊢
    obtain ⟨h1, h3, h2⟩ := hr
    exact ⟨by have := h.nx; omega, h3, by rw [h.ρ _ h1]; exact h2⟩
  | .ptr id off, v, _, hr => by
    simp only [Rep, shift] at hr ⊢
    obtain ⟨h1, h2⟩ := hr
    exact ⟨by have := h.nx; omega, by rw [h.ρ _ h1]; exact h2⟩
  | .rp cs, v, hc, hr => by
    simp only [Rep, shift] at hr ⊢
    obtain ⟨b, o, rfl, hr⟩ := hr
    refine ⟨b, o, rfl, ?_⟩
    cases cs with
    | nil => exact .inl rfl
    | cons c cs =>
      have hcl : cl = false := by
        cases cl with
        | false => rfl
        | true => have := hc rfl; simp [closed] at this
      rcases hr with hr | ⟨hA, hr⟩
      · simp at hr
      have hr' := hr
      simp only [Row] at hr'
      obtain ⟨⟨x, hx, _⟩, _⟩ := hr'
      refine .inr ⟨(h.cell hcl _ _ _ hA hx).2, Row.tr h hcl b o _ hA hr⟩
  | .agg cs, v, hc, hr => by
    simp only [Rep, shift] at hr ⊢
    obtain ⟨vs, rfl, hr⟩ := hr
    exact ⟨vs, rfl, RepL.tr h cs vs (by simpa only [closed] using hc) hr⟩
  | .tup cs, v, hc, hr => by
    simp only [Rep, shift] at hr ⊢
    obtain ⟨vs, rfl, hr⟩ := hr
    exact ⟨vs, rfl, RepL.tr h cs vs (by simpa only [closed] using hc) hr⟩
  | .fn f cs, v, hc, hr => by
    simp only [Rep, shift] at hr ⊢
    obtain ⟨vs, rfl, hr⟩ := hr
    exact ⟨vs, rfl, RepL.tr h cs vs (by simpa only [closed] using hc) hr⟩
theorem Row.tr {k : Nat} {cl : Bool} {E E' : En} (h : Tr k cl E E') (hcl : cl = false) (b o : Nat) : ∀ (cs : List PV), ¬ E.A b → Row E b o cs → Row E' b o (shiftL k cs)
  | [], _, _ => by simp [Row, shiftL]
  | c :: cs, hA, hr => by
    simp only [Row, shiftL] at hr ⊢
    obtain ⟨⟨v, hv, hr⟩, hrs⟩ := hr
    exact ⟨⟨v, (h.cell hcl _ _ _ hA hv).1, Rep.tr h c v (by simp [hcl]) hr⟩, Row.tr h hcl b (o + 1) cs hA hrs⟩
theorem RepL.tr {k : Nat} {cl : Bool} {E E' : En} (h : Tr k cl E E') : ∀ (cs : List PV) (vs : List Value), (cl = true → closedL cs = true) → RepL E cs vs → RepL E' (shiftL k cs) vs
  | [], [], _, _ => by simp [RepL, shiftL]
  | c :: cs, v :: vs, hc, hr => by
    simp only [RepL, shiftL] at hr ⊢
    exact ⟨Rep.tr h c v (fun e => by have := hc e; simp only [closedL, Bool.and_eq_true] at this; exact this.1) hr.1,
      RepL.tr h cs vs (fun e => by have := hc e; simp only [closedL, Bool.and_eq_true] at this; exact this.2) hr.2⟩
  | [], _ :: _, _, hr => by simp [RepL] at hr
  | _ :: _, [], _, hr => by simp [RepL] at hr
end

mutual
theorem Rep.flat {E E' : En} (h : ∀ b o v, ¬ E.A b → E.w.cell? ⟨b, o, none⟩ = some v → E'.w.cell? ⟨b, o, none⟩ = some v ∧ ¬ E'.A b) : ∀ (p : PV) (v : Value), Ytfjdfnlkobeehaa.flat p = true → Rep E p v → Rep E' p v
  | .any, _, _, _ => by simp [Rep]
  | .val x, v, _, hr => by simpa [Rep] using hr
  | .sl n cs, v, hf, hr => by
    simp only [Rep] at hr ⊢
    simp only [Ytfjdfnlkobeehaa.flat] at hf
    rcases hr with hr | ⟨b, o, cap, rfl, hcap, hr⟩
    · exact .inl hr
    refine .inr ⟨b, o, cap, rfl, hcap, ?_⟩
    cases cs with
    | nil => exact .inl rfl
    | cons c cs =>
      rcases hr with hr | ⟨hA, hr⟩
      · simp at hr
      have hr' := hr
      simp only [Row] at hr'
      obtain ⟨⟨x, hx, _⟩, _⟩ := hr'
      exact .inr ⟨(h _ _ _ hA hx).2, Row.flat h b o _ hf hA hr⟩
  | .ref id off n cap sz, v, hf, hr => by simp [Ytfjdfnlkobeehaa.flat] at hf
  | .ptr id off, v, hf, hr => by simp [Ytfjdfnlkobeehaa.flat] at hf
  | .rp cs, v, hf, hr => by
    simp only [Rep] at hr ⊢
    simp only [Ytfjdfnlkobeehaa.flat] at hf
    obtain ⟨b, o, rfl, hr⟩ := hr
    refine ⟨b, o, rfl, ?_⟩
    cases cs with
    | nil => exact .inl rfl
    | cons c cs =>
      rcases hr with hr | ⟨hA, hr⟩
      · simp at hr
      have hr' := hr
      simp only [Row] at hr'
      obtain ⟨⟨x, hx, _⟩, _⟩ := hr'
      exact .inr ⟨(h _ _ _ hA hx).2, Row.flat h b o _ hf hA hr⟩
  | .agg cs, v, hf, hr => by
    simp only [Rep] at hr ⊢
    simp only [Ytfjdfnlkobeehaa.flat] at hf
    obtain ⟨vs, rfl, hr⟩ := hr
    exact ⟨vs, rfl, RepL.flat h cs vs hf hr⟩
  | .tup cs, v, hf, hr => by
    simp only [Rep] at hr ⊢
    simp only [Ytfjdfnlkobeehaa.flat] at hf
    obtain ⟨vs, rfl, hr⟩ := hr
    exact ⟨vs, rfl, RepL.flat h cs vs hf hr⟩
  | .fn f cs, v, hf, hr => by
    simp only [Rep] at hr ⊢
    simp only [Ytfjdfnlkobeehaa.flat] at hf
    obtain ⟨vs, rfl, hr⟩ := hr
    exact ⟨vs, rfl, RepL.flat h cs vs hf hr⟩
theorem Row.flat {E E' : En} (h : ∀ b o v, ¬ E.A b → E.w.cell? ⟨b, o, none⟩ = some v → E'.w.cell? ⟨b, o, none⟩ = some v ∧ ¬ E'.A b) (b o : Nat) : ∀ (cs : List PV), flatL cs = true → ¬ E.A b → Row E b o cs → Row E' b o cs
  | [], _, _, _ => by simp [Row]
  | c :: cs, hf, hA, hr => by
    simp only [Row] at hr ⊢
    simp only [flatL, Bool.and_eq_true] at hf
    obtain ⟨⟨v, hv, hr⟩, hrs⟩ := hr
    exact ⟨⟨v, (h _ _ _ hA hv).1, Rep.flat h c v hf.1 hr⟩, Row.flat h b (o + 1) cs hf.2 hA hrs⟩
theorem RepL.flat {E E' : En} (h : ∀ b o v, ¬ E.A b → E.w.cell? ⟨b, o, none⟩ = some v → E'.w.cell? ⟨b, o, none⟩ = some v ∧ ¬ E'.A b) : ∀ (cs : List PV) (vs : List Value), flatL cs = true → RepL E cs vs → RepL E' cs vs
  | [], [], _, _ => by simp [RepL]
  | c :: cs, v :: vs, hf, hr => by
    simp only [RepL] at hr ⊢
    simp only [flatL, Bool.and_eq_true] at hf
    exact ⟨Rep.flat h c v hf.1 hr.1, RepL.flat h cs vs hf.2 hr.2⟩
  | [], _ :: _, _, hr => by simp [RepL] at hr
  | _ :: _, [], _, hr => by simp [RepL] at hr
end


abbrev En.all (E : En) : En := { E with A := fun _ => False }

theorem En.le_all (E : En) : E.le E.all := ⟨fun _ _ _ _ h => h, fun _ _ _ _ _ h => h, Nat.le_refl _, fun _ _ => rfl⟩

theorem view1_flat {E : En} {H : Nat → Option (List PV)} {p : PV} {v : Value} (hf : flat p = true) (hr : Rep E p v) : Rep E (view1 H p) v := by
  unfold view1
  split
  · simp only [Rep] at hr ⊢; exact .inl ⟨trivial, trivial, none, hr⟩
  · simp [flat] at hf
  · simp [flat] at hf
  · exact hr

theorem view1_all {c : Cx} {st : PS} {a : Act} {w : World} {ρ : Nat → Nat} (h : Rr c st a w ρ) {p : PV} {v : Value} (hr : Rep (enOf c.A0 w ρ st.H st.it st.nx) p v) :
    Rep (enOf c.A0 w ρ st.H st.it st.nx).all (view1 st.H p) v := by
  have hm := Rep.mono (En.le_all _) _ _ hr
  have hrow : ∀ {id : Nat} {cs : List PV} (hc : st.H id = some cs) (off : Nat), cs.drop off = [] ∨ Row (enOf c.A0 w ρ st.H st.it st.nx).all (ρ id) off (cs.drop off) := by
    intro id cs hc off
    cases cs with
    | nil => simp
    | cons x xs =>
      obtain ⟨vs, e, hb, hr⟩ := h.own.blk id _ hc (by simp)
      refine .inr (Row.of_block (E := (enOf c.A0 w ρ st.H st.it st.nx).all) hb _ off (vs.toList.drop off) (RepL.drop off (RepL.mono (En.le_all _) _ _ hr)) fun i hi => ?_)
      simp
  unfold view1
  split
  · simp only [Rep] at hr ⊢; exact .inl ⟨trivial, trivial, none, hr⟩
  · rename_i id off n cap sz
    cases hc : st.H id with
    | none => exact hm
    | some cs =>
      simp only []
      split
      · rename_i hlen
        simp only [Rep] at hr
        obtain ⟨hid, hcap, rfl | ⟨rfl, rfl, rfl⟩⟩ := hr
        · simp only [Rep]
          refine .inr ⟨ρ id, off, cap, rfl, hcap, ?_⟩
          rcases hrow hc off with hx | hx
          · exact .inl (by simp [hx])
          · exact .inr ⟨fun h => h, Row.take _ hx⟩
        · simp [Rep]
      · exact hm
  · rename_i id off
    cases hc : st.H id with
    | none => exact hm
    | some cs =>
      simp only []
      simp only [Rep] at hr ⊢
      obtain ⟨hid, rfl⟩ := hr
      refine ⟨ρ id, off, rfl, ?_⟩
      rcases hrow hc off with hx | hx
      · exact .inl hx
      · exact .inr ⟨fun h => h, hx⟩
  · exact hm

theorem repL_map {E E' : En} {f : PV → PV} (hf : ∀ p v, Rep E p v → Rep E' (f p) v) : ∀ {ps : List PV} {vs : List Value}, RepL E ps vs → RepL E' (ps.map f) vs
  | [], [], _ => by simp [RepL]
  | p :: ps, v :: vs, h => by
    simp only [RepL, List.map_cons] at h ⊢
    exact ⟨hf p v h.1, repL_map hf h.2⟩
  | [], _ :: _, h => by simp [RepL] at h
  | _ :: _, [], h => by simp [RepL] at h

theorem view_gen {E E' : En} {H : Nat → Option (List PV)} (h0 : E.le E') (h1 : ∀ p v, Rep E p v → Rep E' (view1 H p) v) {p : PV} {v : Value} (hr : Rep E p v) : Rep E' (view H p) v := by
  unfold view
  split
  · simp only [Rep] at hr ⊢
    obtain ⟨vs, rfl, hr⟩ := hr
    exact ⟨vs, rfl, repL_map h1 hr⟩
  · rename_i vs
    simp only [Rep] at hr ⊢
    subst hr
    refine ⟨vs.toList, by simp, ?_⟩
    have := repL_map h1 (RepL.vals (E := E) vs.toList)
    rw [List.map_map] at this; exact this
  · exact h1 p v hr

theorem view_flat {E : En} {H : Nat → Option (List PV)} {p : PV} {v : Value} (hf : flat p = true) (hr : Rep E p v) : Rep E (view H p) v := by
  have key : ∀ {cs : List PV} {vs : List Value}, flatL cs = true → RepL E cs vs → RepL E (cs.map (view1 H)) vs := by
    intro cs
    induction cs with
    | nil => intro vs _ h; cases vs <;> simp_all [RepL]
    | cons c cs ih =>
      intro vs hf h
      cases vs with
      | nil => simp [RepL] at h
      | cons v vs =>
        simp only [RepL, List.map_cons] at h ⊢
        simp only [flatL, Bool.and_eq_true] at hf
        exact ⟨view1_flat hf.1 h.1, ih hf.2 h.2⟩
  unfold view
  split
  · simp only [Rep] at hr ⊢
    simp only [flat] at hf
    obtain ⟨vs, rfl, hr⟩ := hr
    exact ⟨vs, rfl, key hf hr⟩
  · rename_i vs
    simp only [Rep] at hr ⊢
    subst hr
    refine ⟨vs.toList, by simp, ?_⟩
    have := key (cs := vs.toList.map .val) (by
      generalize vs.toList = l
      induction l with
      | nil => rfl
      | cons v l ih => simp [flatL, flat, ih]) (RepL.vals (E := E) vs.toList)
    rw [List.map_map] at this; exact this
  · exact view1_flat hf hr

def CallRes (c : Cx) (a : Act) (K : PV → PS → Prop) (e : Ending) (w' : World) : Prop :=
  ∃ v r st' ρ', e = .returned v ∧ K r st' ∧ Rr c st' a w' ρ' ∧ Rep (enOf c.A0 w' ρ' st'.H st'.it st'.nx) r v

theorem Rr.wf {c : Cx} {st : PS} {a : Act} {w : World} {ρ : Nat → Nat} (h : Rr c st a w ρ) : WF st := by
  intro i hi
  cases hc : st.H i with
  | none => rfl
  | some x => have := h.own.bound i (.inl (by simp [hc])); omega

theorem wf_of {F A0 : Nat → Prop} {w : World} {ρ : Nat → Nat} {H : Nat → Option (List PV)} {it : Nat → Option (ByteArray × Nat)} {nx : Nat} (h : OwnOK F A0 w ρ H it nx) : ∀ i, nx ≤ i → H i = none := by
  intro i hi
  cases hc : H i with
  | none => rfl
  | some x => have := h.bound i (.inl (by simp [hc])); omega

theorem callP_sound {c : Cx} {st : PS} {a : Act} {w : World} {ρ : Nat → Nat} (h : Rr c st a w ρ) {f : FuncId} {ps : List PV} {vs : List Value} {K : PV → PS → Prop}
    (hr : RepL (enOf c.A0 w ρ st.H st.it st.nx) ps vs) (hc : callP P f ps st K) : Calls P f vs.toArray w (CallRes c a K) := by
  obtain ⟨hflat, hp⟩ := hc
  
  let A0 : Nat → Prop := fun b => flatL ps = true ∧ (c.A0 b ∨ OwnB ρ st.H st.it b)
  have hA0 : ∀ b, A0 b → b < w.heap.size := by
    rintro b ⟨_, hb | ⟨i, hl, rfl⟩⟩
    · exact Nat.lt_of_lt_of_le (h.fA b hb) h.grow
    · exact h.own.lt hl
  have hnoB : ∀ (ρ : Nat → Nat) b, ¬ OwnB ρ (fun _ => none) (fun _ => none) b := by
    rintro ρ b ⟨i, ⟨cs, hcs, _⟩ | hi, _⟩
    · simp at hcs
    · simp at hi
  have hown : OwnOK (fun _ => False) A0 w ρ (fun _ => none) (fun _ => none) 0 :=
    ⟨fun i hi => by simp at hi, fun i cs hi => by simp at hi, fun i j hi => by rcases hi with ⟨cs, hcs, _⟩ | hi <;> simp at *,
      fun i cs hi => by simp at hi, fun i s p hi => by simp at hi, fun i hi => by rcases hi with ⟨cs, hcs, _⟩ | hi <;> simp at *⟩
  have hargs : RepL (enOf A0 w ρ (fun _ => none) (fun _ => none) 0) (ps.map (view st.H)) vs := by
    cases hfl : flatL ps with
    | true =>
      have h1 : ∀ {cs : List PV} {us : List Value}, flatL cs = true → RepL (enOf c.A0 w ρ st.H st.it st.nx) cs us → RepL (enOf c.A0 w ρ st.H st.it st.nx) (cs.map (view st.H)) us := by
        intro cs
        induction cs with
        | nil => intro us _ h; cases us <;> simp_all [RepL]
        | cons p cs ih =>
          intro us hf h
          cases us with
          | nil => simp [RepL] at h
          | cons u us =>
            simp only [RepL, List.map_cons] at h ⊢
            simp only [flatL, Bool.and_eq_true] at hf
            exact ⟨view_flat hf.1 h.1, ih hf.2 h.2⟩
      refine RepL.flat (E := enOf c.A0 w ρ st.H st.it st.nx) (E' := enOf A0 w ρ (fun _ => none) (fun _ => none) 0) (fun b o v hA hv => ⟨hv, ?_⟩) _ _ hflat (h1 hfl hr)
      rintro (⟨_, hb⟩ | hb)
      · exact hA hb
      · exact hnoB _ _ hb
    | false =>
      have h1 : RepL (enOf c.A0 w ρ st.H st.it st.nx).all (ps.map (view st.H)) vs :=
        repL_map (fun p v hp => view_gen (En.le_all _) (fun p v hp => view1_all h hp) hp) hr
      refine RepL.flat (E := (enOf c.A0 w ρ st.H st.it st.nx).all) (E' := enOf A0 w ρ (fun _ => none) (fun _ => none) 0) (fun b o v hA hv => ⟨hv, ?_⟩) _ _ hflat h1
      rintro (⟨hb, _⟩ | hb)
      · simp [hfl] at hb
      · exact hnoB _ _ hb
  refine (hp.2 w vs ρ A0 hA0 hown hargs).mono ?_
  rintro e w' ⟨v, r, H', nx', ρ', rfl, ⟨hcl, hK⟩, _, _, hown', hrep, hframe, hsize, hsw⟩
  have hframe' : ∀ b, b < w.heap.size → w'.heap[b]? = w.heap[b]? := fun b hb => hframe b hb (hnoB _ _)
  have hnew : ∀ i, Live H' (fun _ => none) i → w.heap.size ≤ ρ' i := by
    intro i hi
    have := (hown'.out i hi).1
    rcases Nat.lt_or_ge (ρ' i) w.heap.size with hlt | hge
    · exact absurd ⟨hlt, hnoB _ _⟩ this
    · exact hge
  have hitnone : ∀ i, st.nx ≤ i → st.it i = none := by
    intro i hi
    cases hc : st.it i with
    | none => rfl
    | some x => have := h.own.bound i (.inr (by simp [hc])); omega
  let ρ'' : Nat → Nat := fun i => if i < st.nx then ρ i else ρ' (i - st.nx)
  have hlive : ∀ i, Live (joinH st.H st.nx H') st.it i → (i < st.nx ∧ Live st.H st.it i) ∨ (st.nx ≤ i ∧ Live H' (fun _ => none) (i - st.nx)) := by
    intro i hl
    rcases Nat.lt_or_ge i st.nx with hi | hi
    · refine .inl ⟨hi, ?_⟩
      rcases hl with ⟨cs, hcs, hne⟩ | hx
      · simp only [joinH, if_pos hi] at hcs; exact .inl ⟨cs, hcs, hne⟩
      · exact .inr hx
    · refine .inr ⟨hi, ?_⟩
      rcases hl with ⟨cs, hcs, hne⟩ | hx
      · simp only [joinH, if_neg (Nat.not_lt.2 hi), Option.map_eq_some_iff] at hcs
        obtain ⟨ds, hds, rfl⟩ := hcs
        exact .inl ⟨ds, hds, fun e => hne (by simp [e, shiftL])⟩
      · exact absurd (hitnone i hi) hx
  have hOwn : ∀ b, OwnB ρ'' (joinH st.H st.nx H') st.it b → OwnB ρ st.H st.it b ∨ OwnB ρ' H' (fun _ => none) b := by
    rintro b ⟨i, hl, rfl⟩
    rcases hlive i hl with ⟨hi, hl'⟩ | ⟨hi, hl'⟩
    · exact .inl ⟨i, hl', by simp [ρ'', hi]⟩
    · exact .inr ⟨_, hl', by simp [ρ'', Nat.not_lt.2 hi]⟩
  have hle : En.le (enOf c.A0 w ρ st.H st.it st.nx) (enOf c.A0 w' ρ'' (joinH st.H st.nx H') st.it (st.nx + nx')) := by
    refine ⟨fun b o v _ hv => (cell_congr (hframe' b (lt_of_cell hv))).trans hv, fun b o v hA hv hA' => ?_, by simp, fun i hi => by simp only [] at hi; simp [ρ'', hi]⟩
    rcases hA' with h0 | hb
    · exact hA (.inl h0)
    · rcases hOwn b hb with hb | ⟨i, hl, rfl⟩
      · exact hA (.inr hb)
      · have := hnew i hl; have := lt_of_cell hv; simp at this; omega
  have htr : Tr st.nx (!flatL ps) (enOf A0 w' ρ' H' (fun _ => none) nx') (enOf c.A0 w' ρ'' (joinH st.H st.nx H') st.it (st.nx + nx')) := by
    refine ⟨by show nx' + st.nx ≤ st.nx + nx'; omega, fun i _ => by show ρ'' (i + st.nx) = ρ' i; simp only [ρ'']; rw [if_neg (by omega)]; congr 1; omega, fun hcl' b o v hA hv => ⟨hv, ?_⟩⟩
    have hfl : flatL ps = true := by simpa using hcl'
    rintro (h0 | hb)
    · exact hA (.inl ⟨hfl, .inl h0⟩)
    · rcases hOwn b hb with hb | hb
      · exact hA (.inl ⟨hfl, .inr hb⟩)
      · exact hA (.inr hb)
  refine ⟨v, _, _, ρ'', rfl, hK h.wf (wf_of hown'), ?_, Rep.tr htr r v (fun e => (hcl (by simpa using e)).1) hrep⟩
  refine ⟨⟨fun i hi => ?_, fun i ds hd hne => ?_, fun i j hi hj he => ?_, fun i ds hd hne => ?_, fun i s p hi => ?_, fun i hi => ?_⟩, fun t => Rep.mono hle _ _ (h.slots t), h.size, h.defers,
    fun b hb => ?_, Nat.le_trans h.grow hsize, ?_, fun i hi => ?_, h.fF, h.fA, h.sw.trans hsw⟩
  · show i < st.nx + nx'
    rcases Nat.lt_or_ge i st.nx with hlt | hge
    · omega
    · rcases hi with hi | hi
      · have : (joinH st.H st.nx H') i ≠ none := hi
        simp only [joinH, if_neg (Nat.not_lt.2 hge), ne_eq, Option.map_eq_none_iff] at this
        have := hown'.bound (i - st.nx) (.inl this)
        omega
      · exact absurd (hitnone i hge) hi
  · rcases Nat.lt_or_ge i st.nx with hlt | hge
    · have hd : joinH st.H st.nx H' i = some ds := hd
      simp only [joinH, if_pos hlt] at hd
      exact h.own.excl i ds hd hne
    · exact hitnone i hge
  · rcases hlive i hi with ⟨h1, hl1⟩ | ⟨h1, hl1⟩ <;> rcases hlive j hj with ⟨h2, hl2⟩ | ⟨h2, hl2⟩
    · simp only [ρ'', if_pos h1, if_pos h2] at he; exact h.own.inj i j hl1 hl2 he
    · simp only [ρ'', if_pos h1, if_neg (Nat.not_lt.2 h2)] at he
      have := hnew _ hl2; have := h.own.lt hl1; omega
    · simp only [ρ'', if_pos h2, if_neg (Nat.not_lt.2 h1)] at he
      have := hnew _ hl1; have := h.own.lt hl2; omega
    · simp only [ρ'', if_neg (Nat.not_lt.2 h1), if_neg (Nat.not_lt.2 h2)] at he
      have := hown'.inj _ _ hl1 hl2 he; omega
  · have hd : joinH st.H st.nx H' i = some ds := hd
    rcases Nat.lt_or_ge i st.nx with hlt | hge
    · simp only [joinH, if_pos hlt] at hd
      obtain ⟨us, e', hb, hr'⟩ := h.own.blk i ds hd hne
      exact ⟨us, e', by simp only [ρ'', if_pos hlt]; rw [hframe' _ (lt_of_heap hb)]; exact hb, RepL.mono hle _ _ hr'⟩
    · simp only [joinH, if_neg (Nat.not_lt.2 hge), Option.map_eq_some_iff] at hd
      obtain ⟨es, hes, rfl⟩ := hd
      obtain ⟨us, e', hb, hr'⟩ := hown'.blk (i - st.nx) es hes (fun e => hne (by simp [e, shiftL]))
      exact ⟨us, e', by simp only [ρ'', if_neg (Nat.not_lt.2 hge)]; exact hb, RepL.tr htr es _ (fun e => (hcl (by simpa using e)).2 _ _ hes) hr'⟩
  · have hi : st.it i = some (s, p) := hi
    have hb := h.own.itb i s p hi
    have hlt := h.own.bound i (.inr (by simp [hi]))
    simp only [ρ'', if_pos hlt]
    rw [hframe' _ (lt_of_heap hb)]; exact hb
  · rcases hlive i hi with ⟨h1, hl1⟩ | ⟨h1, hl1⟩
    · simp only [ρ'', if_pos h1]; exact h.own.out i hl1
    · simp only [ρ'', if_neg (Nat.not_lt.2 h1)]
      have := hnew _ hl1
      exact ⟨fun hF => by have := h.fF _ hF; have := h.grow; omega, fun hA => by have := h.fA _ hA; have := h.grow; omega⟩
  · rw [hframe' b (Nat.lt_of_lt_of_le (h.fF b hb) h.grow)]; exact h.frame b hb
  · show c.k ≤ st.nx + nx'
    have := h.ids; omega
  · have := h.ids
    simp only [ρ'', if_pos (Nat.lt_of_lt_of_le hi this)]; exact h.ρk i hi

theorem callM_sound {c : Cx} {st : PS} {a : Act} {w : World} {ρ : Nat → Nat} (h : Rr c st a w ρ) {f : FuncId} {ps : List PV} {vs : List Value} {K : PV → PS → Prop}
    (hr : RepL (enOf c.A0 w ρ st.H st.it st.nx) ps vs) (hc : callM P f ps st K) : Calls P f vs.toArray w (CallRes c a K) := by
  let I : Nat → Prop := fun b => ∃ i, st.it i ≠ none ∧ ρ i = b
  let A0 : Nat → Prop := fun b => c.A0 b ∨ I b
  have hsplit : ∀ b, OwnB ρ st.H st.it b ↔ (OwnB ρ st.H (fun _ => none) b ∨ I b) := by
    intro b
    constructor
    · rintro ⟨i, hl | hi, rfl⟩
      · exact .inl ⟨i, .inl hl, rfl⟩
      · exact .inr ⟨i, hi, rfl⟩
    · rintro (⟨i, hl | hi, rfl⟩ | ⟨i, hi, rfl⟩)
      · exact ⟨i, .inl hl, rfl⟩
      · simp at hi
      · exact ⟨i, .inr hi, rfl⟩
  have hAeq : ∀ b, (A0 b ∨ OwnB ρ st.H (fun _ => none) b) ↔ (c.A0 b ∨ OwnB ρ st.H st.it b) := by
    intro b
    rw [hsplit b]
    constructor
    · rintro ((h1 | h1) | h1)
      · exact .inl h1
      · exact .inr (.inr h1)
      · exact .inr (.inl h1)
    · rintro (h1 | h1 | h1)
      · exact .inl (.inl h1)
      · exact .inr h1
      · exact .inl (.inr h1)
  have hle0 : En.le (enOf c.A0 w ρ st.H st.it st.nx) (enOf A0 w ρ st.H (fun _ => none) st.nx) :=
    ⟨fun _ _ _ _ hv => hv, fun b _ _ hA _ hA' => hA ((hAeq b).1 hA'), Nat.le_refl _, fun _ _ => rfl⟩
  have hA0 : ∀ b, A0 b → b < w.heap.size := by
    rintro b (hb | ⟨i, hi, rfl⟩)
    · exact Nat.lt_of_lt_of_le (h.fA b hb) h.grow
    · exact h.own.lt (.inr hi)
  have hLive : ∀ i, Live st.H (fun _ => none) i → Live st.H st.it i := by
    rintro i (hl | hi)
    · exact .inl hl
    · simp at hi
  have hown : OwnOK (fun _ => False) A0 w ρ st.H (fun _ => none) st.nx := by
    refine ⟨fun i hi => h.own.bound i (by rcases hi with hi | hi; exact .inl hi; simp at hi), fun i cs hd hne => rfl, fun i j hi hj he => h.own.inj i j (hLive i hi) (hLive j hj) he,
      fun i cs hd hne => ?_, fun i s p hi => by simp at hi, fun i hi => ⟨fun h => h, ?_⟩⟩
    · obtain ⟨us, e', hb, hr'⟩ := h.own.blk i cs hd hne
      exact ⟨us, e', hb, RepL.mono hle0 _ _ hr'⟩
    · rintro (h0 | ⟨j, hj, he⟩)
      · exact (h.own.out i (hLive i hi)).2 h0
      · have := h.own.inj j i (.inr hj) (hLive i hi) he
        subst this
        rcases hi with ⟨cs, hcs, hne⟩ | hi
        · exact hj (h.own.excl _ cs hcs hne)
        · simp at hi
  refine (hc.2 w vs ρ A0 hA0 hown (RepL.mono hle0 _ _ hr)).mono ?_
  rintro e w' ⟨v, r, H', nx', ρ', rfl, hK, hnx, hρ, hown', hrep, hframe, hsize, hsw⟩
  have hitlt : ∀ i, st.it i ≠ none → i < st.nx := fun i hi => h.own.bound i (.inr hi)
  
  have hnew : ∀ i, Live H' (fun _ => none) i → w.heap.size ≤ ρ' i ∨ OwnB ρ st.H (fun _ => none) (ρ' i) := by
    intro i hi
    have := (hown'.out i hi).1
    rcases Nat.lt_or_ge (ρ' i) w.heap.size with hlt | hge
    · exact .inr (Classical.byContradiction fun hn => this ⟨hlt, hn⟩)
    · exact .inl hge
  have hcase : ∀ i, Live H' st.it i → Live H' (fun _ => none) i ∨ (st.it i ≠ none ∧ ρ' i = ρ i) := by
    rintro i (hl | hi)
    · exact .inl (.inl hl)
    · exact .inr ⟨hi, hρ i (hitlt i hi)⟩
  have hA' : ∀ b, (c.A0 b ∨ OwnB ρ' H' st.it b) ↔ (A0 b ∨ OwnB ρ' H' (fun _ => none) b) := by
    intro b
    constructor
    · rintro (h0 | ⟨i, hl, rfl⟩)
      · exact .inl (.inl h0)
      · rcases hcase i hl with hl' | ⟨hi, he⟩
        · exact .inr ⟨i, hl', rfl⟩
        · exact .inl (.inr ⟨i, hi, he.symm⟩)
    · rintro ((h0 | ⟨i, hi, rfl⟩) | ⟨i, hl | hi, rfl⟩)
      · exact .inl h0
      · exact .inr ⟨i, .inr hi, hρ i (hitlt i hi)⟩
      · exact .inr ⟨i, .inl hl, rfl⟩
      · simp at hi
  have hle1 : En.le (enOf A0 w' ρ' H' (fun _ => none) nx') (enOf c.A0 w' ρ' H' st.it nx') :=
    ⟨fun _ _ _ _ hv => hv, fun b _ _ hA _ hA2 => hA ((hA' b).1 hA2), Nat.le_refl _, fun _ _ => rfl⟩
  have hle : En.le (enOf c.A0 w ρ st.H st.it st.nx) (enOf c.A0 w' ρ' H' st.it nx') := by
    refine ⟨fun b o v hA hv => ?_, fun b o v hA hv hA2 => ?_, hnx, hρ⟩
    · exact (cell_congr (hframe b (lt_of_cell hv) fun hb => hA (.inr ((hsplit b).2 (.inl hb))))).trans hv
    · rcases hA2 with h0 | ⟨i, hl, rfl⟩
      · exact hA (.inl h0)
      · rcases hcase i hl with hl' | ⟨hi, he⟩
        · rcases hnew i hl' with h1 | h1
          · have := lt_of_cell hv; simp at this; omega
          · exact hA (.inr ((hsplit _).2 (.inl h1)))
        · rw [he] at hA; exact hA (.inr ((hsplit _).2 (.inr ⟨i, hi, rfl⟩)))
  refine ⟨v, r, _, ρ', rfl, hK h.wf (wf_of hown') hnx, ?_, Rep.mono hle1 _ _ hrep⟩
  refine ⟨⟨fun i hi => ?_, fun i ds hd hne => ?_, fun i j hi hj he => ?_, fun i ds hd hne => ?_, fun i s p hi => ?_, fun i hi => ?_⟩, fun t => Rep.mono hle _ _ (h.slots t), h.size, h.defers,
    fun b hb => ?_, Nat.le_trans h.grow hsize, Nat.le_trans h.ids hnx, fun i hi => by rw [hρ i (Nat.lt_of_lt_of_le hi h.ids)]; exact h.ρk i hi, h.fF, h.fA, h.sw.trans hsw⟩
  · rcases hi with hi | hi
    · exact hown'.bound i (.inl hi)
    · exact Nat.lt_of_lt_of_le (hitlt i hi) hnx
  · have hd : H' i = some ds := hd
    cases hit : st.it i with
    | none => rfl
    | some x =>
      have hi : st.it i ≠ none := by simp [hit]
      have h1 := (hown'.out i (.inl ⟨ds, hd, hne⟩)).2
      exact absurd (.inr ⟨i, hi, (hρ i (hitlt i hi)).symm⟩) h1
  · rcases hcase i hi with h1 | ⟨h1, e1⟩ <;> rcases hcase j hj with h2 | ⟨h2, e2⟩
    · exact hown'.inj i j h1 h2 he
    · exact absurd (.inr ⟨j, h2, by rw [← e2]; exact he.symm⟩) (hown'.out i h1).2
    · exact absurd (.inr ⟨i, h1, by rw [← e1]; exact he⟩) (hown'.out j h2).2
    · rw [e1, e2] at he; exact h.own.inj i j (.inr h1) (.inr h2) he
  · have hd : H' i = some ds := hd
    obtain ⟨us, e', hb, hr'⟩ := hown'.blk i ds hd hne
    exact ⟨us, e', hb, RepL.mono hle1 _ _ hr'⟩
  · have hi : st.it i = some (s, p) := hi
    have hne : st.it i ≠ none := by simp [hi]
    have hb := h.own.itb i s p hi
    rw [hρ i (hitlt i hne), hframe _ (lt_of_heap hb) ?_]
    · exact hb
    · rintro ⟨j, hl, he⟩
      have := h.own.inj j i (hLive j hl) (.inr hne) he
      subst this
      rcases hl with ⟨cs, hcs, hn⟩ | hl
      · exact hne (h.own.excl _ cs hcs hn)
      · simp at hl
  · rcases hcase i hi with h1 | ⟨h1, e1⟩
    · refine ⟨fun hF => ?_, fun hA => (hown'.out i h1).2 (.inl hA)⟩
      rcases hnew i h1 with h2 | ⟨j, hl, he⟩
      · have := h.fF _ hF; have := h.grow; omega
      · rw [← he] at hF; exact (h.own.out j (hLive j hl)).1 hF
    · rw [e1]; exact h.own.out i (.inr h1)
  · rw [hframe b (Nat.lt_of_lt_of_le (h.fF b hb) h.grow) ?_]
    · exact h.frame b hb
    · rintro ⟨j, hl, he⟩
      rw [← he] at hb; exact (h.own.out j (hLive j hl)).1 hb

end Go.Proofs.Ytfjdfnlkobeehaa
end
