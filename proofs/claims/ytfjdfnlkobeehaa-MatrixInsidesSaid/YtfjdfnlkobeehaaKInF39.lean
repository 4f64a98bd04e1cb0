/- Part 39 of the way to the statement: the walk and what it needs. -/
import Derived.Test.YtfjdfnlkobeehaaKInF32
section
set_option linter.unusedVariables false
set_option linter.unusedSimpArgs false
namespace Go.Proofs.Ytfjdfnlkobeehaa

theorem Rr.cells {c : Cx} {st : PS} {a : Act} {w : World} {ρ : Nat → Nat} (h : Rr c st a w ρ) {id : Nat} {cs qs : List PV} (h0 : st.H id = some cs) (hne : cs ≠ []) (hne' : qs ≠ [])
    (hr : ∃ (vs : Array Value) (e : TypeId), w.heap[ρ id]? = some (.cells vs e (0, 0)) ∧ RepL (enOf c.A0 w ρ st.H st.it st.nx) qs vs.toList) : Rr c (st.withH (upd st.H id (some qs)) st.nx) a w ρ := by
  have hl : ∀ i, Live (upd st.H id (some qs)) st.it i ↔ Live st.H st.it i := by
    intro i
    by_cases hx : i = id
    · subst hx
      exact ⟨fun _ => .inl ⟨cs, h0, hne⟩, fun _ => .inl ⟨_, upd_self _ _ _, hne'⟩⟩
    · unfold Live; rw [upd_ne _ _ hx]
  have hle : En.le (enOf c.A0 w ρ st.H st.it st.nx) (enOf c.A0 w ρ (upd st.H id (some qs)) st.it st.nx) :=
    ⟨fun _ _ _ _ hv => hv, fun b _ _ hA _ hA' => hA (hA'.imp_right fun ⟨i, hi, e⟩ => ⟨i, (hl i).1 hi, e⟩), Nat.le_refl _, fun _ _ => rfl⟩
  refine ⟨⟨fun i hi => ?_, fun i ds hc hd => ?_, fun i j hi hj he => h.own.inj i j ((hl i).1 hi) ((hl j).1 hj) he, fun i ds hc hd => ?_, h.own.itb, fun i hi => h.own.out i ((hl i).1 hi)⟩,
    fun u => Rep.mono hle _ _ (h.slots u), h.size, h.defers, h.frame, h.grow, h.ids, h.ρk, h.fF, h.fA, h.sw⟩
  · have hi : upd st.H id (some qs) i ≠ none ∨ st.it i ≠ none := hi
    by_cases hx : i = id
    · subst hx; exact h.own.bound i (.inl (by rw [h0]; simp))
    · rw [upd_ne _ _ hx] at hi; exact h.own.bound i hi
  · have hc : upd st.H id (some qs) i = some ds := hc
    by_cases hx : i = id
    · subst hx; exact h.own.excl i cs h0 hne
    · rw [upd_ne _ _ hx] at hc; exact h.own.excl i ds hc hd
  · have hc : upd st.H id (some qs) i = some ds := hc
    by_cases hx : i = id
    · subst hx
      rw [upd_self] at hc
      obtain rfl : qs = ds := by simpa using hc
      obtain ⟨vs, e, hh, hr⟩ := hr
      exact ⟨vs, e, hh, RepL.mono hle _ _ hr⟩
    · rw [upd_ne _ _ hx] at hc
      obtain ⟨vs, e, hh, hr⟩ := h.own.blk i ds hc hd
      exact ⟨vs, e, hh, RepL.mono hle _ _ hr⟩
theorem mapM_ne {α β : Type} {f : α → Option β} {l : List α} {m : List β} (h : l.mapM f = some m) (hl : l ≠ []) : m ≠ [] := by
  cases l with
  | nil => exact absurd rfl hl
  | cons x l =>
    rw [List.mapM_cons] at h
    intro e
    subst e
    cases hf : f x with
    | none => rw [hf] at h; simp at h
    | some y =>
      rw [hf] at h
      cases hg : l.mapM f with
      | none => rw [hg] at h; simp at h
      | some ys => rw [hg] at h; simp at h

theorem Gh.frzH {st : PS} {id : Nat} {cs qs : List PV} (D : Nat → Bool) (d : Nat) (h0 : st.H id = some cs) (hD : D id = false) (hq : cs.mapM (Ytfjdfnlkobeehaa.frz D st.H d) = some qs) : Gh st (st.withH (upd (dropH D st.H) id (some qs)) st.nx) := by
  by_cases hne : cs = []
  · subst hne
    obtain rfl : qs = [] := by simpa using hq.symm
    have e : upd (dropH D st.H) id (some []) = dropH D st.H := by
      funext j
      by_cases hj : j = id
      · subst hj; rw [upd_self]; unfold dropH; rw [hD]; exact h0.symm
      · rw [upd_ne _ _ hj]
    rw [e]
    exact Gh.drop D
  rintro c a w ⟨ρ, h⟩
  obtain ⟨h', hle⟩ := h.drop (H' := dropH D st.H) (it' := st.it) (fun i => by unfold dropH; split; exact .inr rfl; exact .inl rfl) (fun i => .inl rfl)
  obtain ⟨vs, e, hh, hr⟩ := h.own.blk id cs h0 hne
  exact ⟨ρ, Rr.cells h' (id := id) (cs := cs) (by show dropH D st.H id = some cs; unfold dropH; rw [hD]; exact h0) hne (mapM_ne hq hne) ⟨vs, e, hh, frzL_sound h D d cs qs _ hq hr⟩⟩
end Go.Proofs.Ytfjdfnlkobeehaa
end
