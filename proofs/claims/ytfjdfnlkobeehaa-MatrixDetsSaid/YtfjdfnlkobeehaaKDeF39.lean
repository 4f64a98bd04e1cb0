/- Part 39 of the way to the statement: the walk and what it needs. -/
import Derived.Test.YtfjdfnlkobeehaaKDeF32
section
set_option linter.unusedVariables false
set_option linter.unusedSimpArgs false
namespace Go.Proofs.Ytfjdfnlkobeehaa

theorem Rr.cells {c : Cx} {st : PS} {a : Act} {w : World} {ρ : Nat → Nat} (h : Rr c st a w ρ) {id : Nat} {cs qs : List PV} (h0 : st.H id = some cs) (hne : cs ≠ []) (hne' : qs ≠ [])
    (hr : ∃ (vs : Array Value) (e : TypeId), w.heap[ρ id]? = some (.cells vs e (0, 0)) ∧ RepL (enOf c.A0 w ρ st.H st.it st.nx) qs vs.toList) : Rr c (st.withH (upd st.H id (some qs)) st.nx) a w ρ := by
  have hl : ∀ i, Live (upd st.H id (some qs)) st.it i ↔ Live st.H st.it i := by
    intro i
    by_cases hx : i = id
    · subst hx
      exact ⟨fun _ => .inl ⟨cs, h0, hne⟩, fun _ => .inl ⟨_, upd_self _ _ _, hne'⟩⟩
    · unfold Live; rw [upd_ne _ _ hx]
  have hle : En.le (enOf c.A0 w ρ st.H st.it st.nx) (enOf c.A0 w ρ (upd st.H id (some qs)) st.it st.nx) :=
    ⟨fun _ _ _ _ hv => hv, fun b _ _ hA _ hA' => hA (hA'.imp_right fun ⟨i, hi, e⟩ => ⟨i, (hl i).1 hi, e⟩), Nat.le_refl _, fun _ _ => rfl⟩
  refine ⟨⟨fun i hi => ?_, fun i ds hc hd => ?_, fun i j hi hj he => h.own.inj i j ((hl i).1 hi) ((hl j).1 hj) he, fun i ds hc hd => ?_, h.own.itb, fun i hi => h.own.out i ((hl i).1 hi)⟩,
    fun u => Rep.mono hle _ _ (h.slots u), h.size, h.defers, h.frame, h.grow, h.ids, h.ρk, h.fF, h.fA, h.sw⟩
  · have hi : upd st.H id (some qs) i ≠ none ∨ st.it i ≠ none := hi
    by_cases hx : i = id
    · subst hx; exact h.own.bound i (.inl (by rw [h0]; simp))
    · rw [upd_ne _ _ hx] at hi; exact h.own.bound i hi
  · have hc : upd st.H id (some qs) i = some ds := hc
    by_cases hx : i = id
    · subst hx; exact h.own.excl i cs h0 hne
    · rw [upd_ne _ _ hx] at hc; exact h.own.excl i ds hc hd
  · have hc : upd st.H id (some qs) i = some ds := hc
    by_cases hx : i = id
    · subst hx
      rw [upd_self] at hc
      obtain rfl : qs = ds := by simpa using hc
      obtain ⟨vs, e, hh, hr⟩ := hr
      exact ⟨vs, e, hh, RepL.mono hle _ _ hr⟩
    · rw [upd_ne _ _ hx] at hc
      obtain ⟨vs, e, hh, hr⟩ := h.own.blk i ds hc hd
      exact ⟨vs, e, hh, RepL.mono hle _ _ hr⟩
end Go.Proofs.Ytfjdfnlkobeehaa
end
