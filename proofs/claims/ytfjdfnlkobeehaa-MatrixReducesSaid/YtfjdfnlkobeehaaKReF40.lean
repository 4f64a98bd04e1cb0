/- Part 40 of the way to the statement: the walk and what it needs. -/
import Derived.Test.YtfjdfnlkobeehaaKReF22
import Derived.Test.YtfjdfnlkobeehaaKReF33
section
set_option linter.unusedVariables false
set_option linter.unusedSimpArgs false
namespace Go.Proofs.Ytfjdfnlkobeehaa

variable {P : Program}

theorem ownB_none (ρ : Nat → Nat) (b : Nat) : ¬ OwnB ρ (fun _ => none) (fun _ => none) b := by
  rintro ⟨i, ⟨cs, hcs, _⟩ | hi, _⟩
  · simp at hcs
  · simp at hi
theorem own_none (F A0 : Nat → Prop) (w : World) (ρ : Nat → Nat) (nx : Nat) : OwnOK F A0 w ρ (fun _ => none) (fun _ => none) nx :=
  ⟨fun i hi => by simp at hi, fun i cs hi => by simp at hi, fun i j hi => by rcases hi with ⟨cs, hcs, _⟩ | hi <;> simp at *,
    fun i cs hi => by simp at hi, fun i s p hi => by simp at hi, fun i hi => by rcases hi with ⟨cs, hcs, _⟩ | hi <;> simp at *⟩

theorem PCalls.borrow {f : FuncId} {args args' : List PV} {H : Nat → Option (List PV)} {nx d : Nat} {x : Value} (hq : args.mapM (Ytfjdfnlkobeehaa.frz (fun _ => true) H d) = some args') (hfl : flatL args' = true) (h : PT P f args' (isV (.val x))) : PCalls P f args H nx (memQ (.val x) H nx) := by
  refine ⟨h.1, fun w vs ρ A0 h1 h2 h3 => ?_⟩
  let c : Cx := { F := fun _ => False, w0 := w, A0 := A0, ρ0 := ρ, k := 0, n := 0, tb := [] }
  let st : PS := { sl := fun _ => .any, H := H, it := fun _ => none, nx := nx }
  have hR : Rr c st { tmps := #[], defers := [] } w ρ :=
    ⟨h2, fun t => by simp [st, Rep], rfl, rfl, fun _ _ => rfl, Nat.le_refl _, Nat.zero_le _, fun _ _ => rfl, fun b hb => hb.elim, h1, Sw.refl _⟩
  have hr := frzL_sound hR (fun _ => true) d args args' vs hq h3
  have hargs : RepL (enOf (fun _ => False) w ρ (fun _ => none) (fun _ => none) 0) args' vs := by
    refine RepL.flat (E := (enOf c.A0 w ρ (dropH (fun _ => true) st.H) st.it st.nx).all) (E' := enOf (fun _ => False) w ρ (fun _ => none) (fun _ => none) 0) (fun b o v hA hv => ⟨hv, ?_⟩) _ _ hfl (RepL.mono (En.le_all _) _ _ hr)
    rintro (hb | hb)
    · exact hb
    · exact ownB_none _ _ hb
  refine (h.2 w vs ρ (fun _ => False) (fun b hb => hb.elim) (own_none _ _ _ _ _) hargs).mono ?_
  rintro e w' ⟨v, r, H', nx', ρ', rfl, ⟨_, rfl⟩, _, _, _, hrep, hframe, hsize, hsw⟩
  have hframe' : ∀ b, b < w.heap.size → w'.heap[b]? = w.heap[b]? := fun b hb => hframe b hb (ownB_none _ _)
  simp only [Rep] at hrep
  subst hrep
  have hle : En.le (enOf A0 w ρ H (fun _ => none) nx) (enOf A0 w' ρ H (fun _ => none) nx) :=
    ⟨fun b o v _ hv => (cell_congr (hframe' b (lt_of_cell hv))).trans hv, fun b o v hA hv hA' => hA hA', Nat.le_refl _, fun _ _ => rfl⟩
  refine ⟨_, .val v, H, nx, ρ, rfl, ⟨rfl, rfl, rfl⟩, Nat.le_refl _, fun _ _ => rfl, ?_, by simp [Rep], fun b hb _ => hframe' b hb, hsize, hsw⟩
  refine ⟨h2.bound, h2.excl, h2.inj, fun i cs hc hne => ?_, fun i s p hi => by simp at hi, fun i hi => ⟨fun ⟨_, hn⟩ => hn ⟨i, hi, rfl⟩, (h2.out i hi).2⟩⟩
  obtain ⟨us, e, hb, hr⟩ := h2.blk i cs hc hne
  exact ⟨us, e, (hframe' _ (lt_of_heap hb)).trans hb, RepL.mono hle _ _ hr⟩

theorem pCall_new {f : FuncId} {args args' : List PV} {st : PS} {K : PV → PS → Prop} {Q : PV → (Nat → Option (List PV)) → Nat → Prop} (hv : args.map (view st.H) = args') (hfa : flatL args = true) (hf : flatL args' = true) (h : PCalls P f args' (fun _ => none) 0 Q)
    (hk : ∀ r H' nx', Q r H' nx' → K (Ytfjdfnlkobeehaa.shift st.nx r) (st.withH (joinH st.H st.nx H') (st.nx + nx'))) : pCall P f args st K := by
  refine ⟨_, _, GhA.refl _ _, .inl ⟨by rw [hv]; exact hf, ?_⟩⟩
  rw [hv]
  refine PCalls.mono h fun r H' n hq => ⟨fun e => by rw [hfa] at e; simp at e, fun _ _ => ?_⟩
  exact ghK_intro (hk r H' n hq)

theorem pCall_frzMem {f : FuncId} {args args' : List PV} {st : PS} {K : PV → PS → Prop} {Q : PV → (Nat → Option (List PV)) → Nat → Prop} (hq : args.mapM (Ytfjdfnlkobeehaa.frz (fun _ => true) st.H 1) = some args') (h : PCalls P f args' (fun _ => none) st.nx Q)
    (hk : ∀ r H' nx', Q r H' nx' → st.nx ≤ nx' → K r (st.frzAll.withH H' nx')) : pCall P f args st K := by
  have h1 : pCall P f args' st.frzAll K := pCall_mem h hk
  obtain ⟨args1, st1, hg, hc⟩ := h1
  refine ⟨args1, st1, fun c a w vs hR => hg c a w vs ?_, hc⟩
  obtain ⟨ρ, hR, hr⟩ := hR
  have h' := (hR.drop (H' := dropH (fun _ => true) st.H) (it' := st.it) (fun i => by unfold dropH; split; exact .inr rfl; exact .inl rfl) (fun i => .inl rfl)).1
  refine ⟨ρ, ⟨h'.own, fun u => ?_, h'.size, h'.defers, h'.frame, h'.grow, h'.ids, h'.ρk, h'.fF, h'.fA, h'.sw⟩, frzL_sound hR (fun _ => true) 1 _ _ _ hq hr⟩
  show Rep _ (frzS st.H (st.sl u)) _
  unfold frzS
  cases hz : Ytfjdfnlkobeehaa.frz (fun _ => true) st.H 1 (st.sl u) with
  | none => simp [Rep]
  | some q => exact frz_sound hR (fun _ => true) 1 _ q _ hz (hR.slots u)
theorem joinH_lt {H G : Nat → Option (List PV)} {nx i : Nat} (h : i < nx) : joinH H nx G i = H i := by unfold joinH; rw [if_pos h]
theorem joinH_ge {H G : Nat → Option (List PV)} {nx i : Nat} : joinH H nx G (i + nx) = (G i).map (shiftL nx) := by
  unfold joinH; rw [if_neg (by omega), Nat.add_sub_cancel]
theorem shiftL_app (k : Nat) (cs ds : List PV) : shiftL k (cs ++ ds) = shiftL k cs ++ shiftL k ds := by
  rw [shiftL_eq, shiftL_eq, shiftL_eq, List.map_append]
theorem shiftL_val (k : Nat) (l : List Value) : shiftL k (l.map .val) = l.map .val := shiftL_flat _ _ (flatL_val _)
end Go.Proofs.Ytfjdfnlkobeehaa
end
