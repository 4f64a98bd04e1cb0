/- Part 1 of the way to the statement: the walk and what it needs. -/
import Derived.Orders
import Derived.Tactics
section
set_option linter.unusedVariables false
set_option linter.unusedSimpArgs false
namespace Go.Proofs.Ytfjdfnlkobeehaa


inductive PV where
  | any
  | val (v : Value)
  | sl (n : Nat) (cs : List PV)
  | ref (id off n cap sz : Nat)
  | ptr (id off : Nat)
  | rp (cs : List PV)
  | agg (cs : List PV)
  | tup (cs : List PV)
  | fn (f : FuncId) (cs : List PV)

instance : Inhabited PV := ⟨.any⟩


structure En where
  w : World
  ρ : Nat → Nat
  nx : Nat
  A : Nat → Prop

mutual
def Rep (E : En) : PV → Value → Prop
  | .any, _ => True
  | .val x, v => v = x
  | .sl n cs, v => (n = 0 ∧ cs = [] ∧ ∃ a, v = .slice a 0 0) ∨ ∃ b o cap, v = .slice (some ⟨b, o, none⟩) n cap ∧ n ≤ cap ∧ (cs = [] ∨ (¬ E.A b ∧ Row E b o cs))
  | .ref id off n cap _, v => id < E.nx ∧ n ≤ cap ∧ (v = .slice (some ⟨E.ρ id, off, none⟩) n cap ∨ (n = 0 ∧ cap = 0 ∧ v = .slice none 0 0))
  | .ptr id off, v => id < E.nx ∧ v = .pointer (some ⟨E.ρ id, off, none⟩)
  | .rp cs, v => ∃ b o, v = .pointer (some ⟨b, o, none⟩) ∧ (cs = [] ∨ (¬ E.A b ∧ Row E b o cs))
  | .agg cs, v => ∃ vs : List Value, v = .agg vs.toArray ∧ RepL E cs vs
  | .tup cs, v => ∃ vs : List Value, v = .tuple vs.toArray ∧ RepL E cs vs
  | .fn f cs, v => ∃ vs : List Value, v = .func (.func f) #[] vs.toArray ∧ RepL E cs vs
def Row (E : En) (b o : Nat) : List PV → Prop
  | [] => True
  | c :: cs => (∃ v, E.w.cell? ⟨b, o, none⟩ = some v ∧ Rep E c v) ∧ Row E b (o + 1) cs
def RepL (E : En) : List PV → List Value → Prop
  | [], [] => True
  | c :: cs, v :: vs => Rep E c v ∧ RepL E cs vs
  | _, _ => False
end


structure En.le (E E' : En) : Prop where
  cell : ∀ b o v, ¬ E.A b → E.w.cell? ⟨b, o, none⟩ = some v → E'.w.cell? ⟨b, o, none⟩ = some v
  av : ∀ b o v, ¬ E.A b → E.w.cell? ⟨b, o, none⟩ = some v → ¬ E'.A b
  nx : E.nx ≤ E'.nx
  ρ : ∀ i, i < E.nx → E'.ρ i = E.ρ i

mutual
theorem Rep.mono {E E' : En} (h : E.le E') : ∀ (p : PV) (v : Value), Rep E p v → Rep E' p v
  | .any, _, _ => by simp [Rep]
  | .val x, v, hr => by simpa [Rep] using hr
  | .sl n cs, v, hr => by
    simp only [Rep] at hr ⊢
    rcases hr with hr | ⟨b, o, cap, rfl, hc, hr⟩
    · exact .inl hr
    refine .inr ⟨b, o, cap, rfl, hc, ?_⟩
    rcases hr with hr | ⟨hA, hr⟩
    · exact .inl hr
    · cases cs with
      | nil => exact .inl rfl
      | cons c cs =>
        refine .inr ⟨?_, Row.mono h b o _ hA hr⟩
        simp only [Row] at hr
        obtain ⟨⟨x, hx, _⟩, _⟩ := hr
        exact h.av _ _ _ hA hx
  | .ref id off n cap sz, v, hr => by
    simp only [Rep] at hr ⊢
    obtain ⟨h1, h3, h2⟩ := hr
    exact ⟨Nat.lt_of_lt_of_le h1 h.nx, h3, by rw [h.ρ _ h1]; exact h2⟩
  | .ptr id off, v, hr => by
    simp only [Rep] at hr ⊢
    obtain ⟨h1, h2⟩ := hr
    exact ⟨Nat.lt_of_lt_of_le h1 h.nx, by rw [h.ρ _ h1]; exact h2⟩
  | .rp cs, v, hr => by
    simp only [Rep] at hr ⊢
    obtain ⟨b, o, rfl, hr⟩ := hr
    refine ⟨b, o, rfl, ?_⟩
    rcases hr with hr | ⟨hA, hr⟩
    · exact .inl hr
    · cases cs with
      | nil => exact .inl rfl
      | cons c cs =>
        refine .inr ⟨?_, Row.mono h b o _ hA hr⟩
        simp only [Row] at hr
        obtain ⟨⟨x, hx, _⟩, _⟩ := hr
        exact h.av _ _ _ hA hx
  | .agg cs, v, hr => by
    simp only [Rep] at hr ⊢
    obtain ⟨vs, rfl, hr⟩ := hr
    exact ⟨vs, rfl, RepL.mono h _ _ hr⟩
  | .tup cs, v, hr => by
    simp only [Rep] at hr ⊢
    obtain ⟨vs, rfl, hr⟩ := hr
    exact ⟨vs, rfl, RepL.mono h _ _ hr⟩
  | .fn f cs, v, hr => by
    simp only [Rep] at hr ⊢
    obtain ⟨vs, rfl, hr⟩ := hr
    exact ⟨vs, rfl, RepL.mono h _ _ hr⟩
theorem Row.mono {E E' : En} (h : E.le E') (b o : Nat) : ∀ (cs : List PV), ¬ E.A b → Row E b o cs → Row E' b o cs
  | [], _, _ => by simp [Row]
  | c :: cs, hA, hr => by
    simp only [Row] at hr ⊢
    obtain ⟨⟨v, hv, hr⟩, hrs⟩ := hr
    exact ⟨⟨v, h.cell _ _ _ hA hv, Rep.mono h c v hr⟩, Row.mono h b (o + 1) cs hA hrs⟩
theorem RepL.mono {E E' : En} (h : E.le E') : ∀ (cs : List PV) (vs : List Value), RepL E cs vs → RepL E' cs vs
  | [], [], _ => by simp [RepL]
  | c :: cs, v :: vs, hr => by
    simp only [RepL] at hr ⊢
    exact ⟨Rep.mono h c v hr.1, RepL.mono h cs vs hr.2⟩
  | [], _ :: _, hr => by simp [RepL] at hr
  | _ :: _, [], hr => by simp [RepL] at hr
end

end Go.Proofs.Ytfjdfnlkobeehaa
end
