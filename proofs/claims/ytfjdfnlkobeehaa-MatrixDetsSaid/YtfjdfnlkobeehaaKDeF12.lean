/- Part 12 of the way to the statement: the walk and what it needs. -/
import Derived.Test.YtfjdfnlkobeehaaKDeF11
section
set_option linter.unusedVariables false
set_option linter.unusedSimpArgs false
namespace Go.Proofs.Ytfjdfnlkobeehaa

variable {P : Program}


def Cx.plus (c : Cx) (w : World) (b : Nat) : Cx := { c with F := fun x => c.F x ∨ x = b, A0 := fun x => c.A0 x ∨ x = b, w0 := w }

def Cx.less (c : Cx) (b : Nat) : Cx := { c with F := fun x => c.F x ∧ x ≠ b, A0 := fun x => c.A0 x ∧ x ≠ b }

theorem R.early {c : Cx} {st : PS} {a : Act} {w w1 : World} (h : R c st a w) {vs : Array Value} {te : TypeId} (hw : w1.heap = w.heap.push (.cells vs te (0, 0))) : R (c.plus w1 w.heap.size) st a w1 := by
  obtain ⟨ρ, h⟩ := h
  have hold : ∀ b, b < w.heap.size → w1.heap[b]? = w.heap[b]? := fun b hb => by
    rw [hw, Array.getElem?_push]; simp [Nat.ne_of_lt hb]
  have hle : En.le (enOf c.A0 w ρ st.H st.it st.nx) (enOf (c.plus w1 w.heap.size).A0 w1 ρ st.H st.it st.nx) := by
    refine ⟨fun b o v _ hv => (cell_congr (hold b (lt_of_cell hv))).trans hv, fun b o v hA hv hA' => ?_, Nat.le_refl _, fun _ _ => rfl⟩
    rcases hA' with (h0 | h0) | h0
    · exact hA (.inl h0)
    · have := lt_of_cell hv; simp at this; omega
    · exact hA (.inr h0)
  have hg := h.grow
  have hsz : w1.heap.size = w.heap.size + 1 := by rw [hw]; simp
  refine ⟨ρ, ⟨h.own.bound, h.own.excl, h.own.inj, fun i cs hc hne => ?_, fun i s p hi => ?_, fun i hi => ?_⟩, fun t => Rep.mono hle _ _ (h.slots t), h.size, h.defers, fun b _ => rfl, Nat.le_refl _, h.ids, h.ρk, fun b hb => ?_, fun b hb => ?_, Sw.refl _⟩
  · obtain ⟨us, e, hb, hr⟩ := h.own.blk i cs hc hne
    exact ⟨us, e, (hold _ (lt_of_heap hb)).trans hb, RepL.mono hle _ _ hr⟩
  · have := h.own.itb i s p hi
    exact (hold _ (lt_of_heap this)).trans this
  · have hl := h.own.lt hi
    obtain ⟨h1, h2⟩ := h.own.out i hi
    exact ⟨fun hF => hF.elim h1 (fun e => by omega), fun hA => hA.elim h2 (fun e => by omega)⟩
  · show b < w1.heap.size
    rcases hb with hb | hb
    · have := h.fF b hb; omega
    · omega
  · show b < w1.heap.size
    rcases hb with hb | hb
    · have := h.fA b hb; omega
    · omega

theorem R.adopt {c : Cx} {st : PS} {a : Act} {w : World} {b : Nat} {vs : Array Value} {te : TypeId} {ρ : Nat → Nat} {cs : List PV} (h : Rr c st a w ρ) (hcs : RepL (enOf c.A0 w ρ st.H st.it st.nx) cs vs.toList) (hF : c.F b) (hA : c.A0 b) (hb : c.w0.heap[b]? = some (.cells vs te (0, 0)))
    {d : Option Nat} (hd : ∀ x, d = some x → x < c.n) {p : PV} {v : Value} (hp : ∀ E : En, st.nx < E.nx → E.ρ st.nx = b → Rep E p v) : R (c.less b) ((st.new cs).put d p) (a.put d v) w := by
  have hwb : w.heap[b]? = some (.cells vs te (0, 0)) := by rw [h.frame b hF]; exact hb
  have hnone : st.H st.nx = none := by
    cases hc : st.H st.nx with
    | none => rfl
    | some x => exact absurd (h.own.bound st.nx (.inl (by simp [hc]))) (Nat.lt_irrefl _)
  have hit : st.it st.nx = none := by
    cases hc : st.it st.nx with
    | none => rfl
    | some x => exact absurd (h.own.bound st.nx (.inr (by simp [hc]))) (Nat.lt_irrefl _)
  have hlive : ∀ i, Live (upd st.H st.nx (some cs)) st.it i → i = st.nx ∨ (i ≠ st.nx ∧ i < st.nx ∧ Live st.H st.it i) := by
    intro i hl
    by_cases hi : i = st.nx
    · exact .inl hi
    · have hl' : Live st.H st.it i := by
        rcases hl with ⟨ds, hd, hne⟩ | hx
        · rw [upd_ne _ _ hi] at hd; exact .inl ⟨ds, hd, hne⟩
        · exact .inr hx
      exact .inr ⟨hi, Live.lt h.own hl', hl'⟩
  have hle : En.le (enOf c.A0 w ρ st.H st.it st.nx) (enOf (c.less b).A0 w (upd ρ st.nx b) (upd st.H st.nx (some cs)) st.it (st.nx + 1)) := by
    refine ⟨fun _ _ _ _ hv => hv, fun x o v hA' hv hx => ?_, Nat.le_succ _, fun i hi => upd_ne _ _ (Nat.ne_of_lt hi)⟩
    rcases hx with h0 | ⟨i, hl, hbx⟩
    · exact hA' (.inl h0.1)
    · rcases hlive i hl with hi | ⟨hi, _, hl'⟩
      · subst hi; rw [upd_self] at hbx; subst hbx; exact hA' (.inl hA)
      · rw [upd_ne _ _ hi] at hbx; exact hA' (.inr ⟨i, hl', hbx⟩)
  have hne : ∀ i, Live st.H st.it i → ρ i ≠ b := fun i hl e => (h.own.out i hl).2 (e ▸ hA)
  refine ⟨upd ρ st.nx b, Rr.put (c := c.less b) (st := st.new (cs)) ⟨⟨fun i hi => ?_, fun i ds hd hne => ?_, fun i j hi hj he => ?_, fun i ds hd hne => ?_, fun i s q hi => ?_, fun i hi => ?_⟩, fun t => Rep.mono hle _ _ (h.slots t), h.size, h.defers,
    fun x hx => h.frame x hx.1, h.grow, Nat.le_succ_of_le h.ids, fun i hi => ?_, fun x hx => h.fF x hx.1, fun x hx => h.fA x hx.1, h.sw⟩ hd (hp _ (Nat.lt_succ_self _) (upd_self _ _ _))⟩
  · by_cases hx : i = st.nx
    · exact hx ▸ Nat.lt_succ_self _
    · simp only [PS.new, upd_ne _ _ hx] at hi; exact Nat.lt_succ_of_lt (h.own.bound i hi)
  · by_cases hx : i = st.nx
    · subst hx; exact hit
    · simp only [PS.new, upd_ne _ _ hx] at hd; exact h.own.excl i _ hd hne
  · rcases hlive i hi with h1 | ⟨h1, _, hl1⟩ <;> rcases hlive j hj with h2 | ⟨h2, _, hl2⟩
    · omega
    · subst h1; rw [upd_self, upd_ne _ _ h2] at he; exact absurd he.symm (hne j hl2)
    · subst h2; rw [upd_self, upd_ne _ _ h1] at he; exact absurd he (hne i hl1)
    · rw [upd_ne _ _ h1, upd_ne _ _ h2] at he; exact h.own.inj i j hl1 hl2 he
  · have hd : upd st.H st.nx (some cs) i = some ds := hd
    by_cases hx : i = st.nx
    · subst hx
      rw [upd_self] at hd; simp at hd; subst hd
      exact ⟨vs, te, by rw [upd_self]; exact hwb, RepL.mono hle _ _ hcs⟩
    · rw [upd_ne _ _ hx] at hd
      obtain ⟨us, e', hb', hr'⟩ := h.own.blk i ds hd hne
      exact ⟨us, e', by rw [upd_ne _ _ hx]; exact hb', RepL.mono hle _ _ hr'⟩
  · have hx : i ≠ st.nx := fun e => by subst e; simp [PS.new, hit] at hi
    have := h.own.itb i s q hi
    rw [upd_ne _ _ hx]; exact this
  · rcases hlive i hi with h1 | ⟨h1, _, hl1⟩
    · subst h1; rw [upd_self]
      exact ⟨fun hF => hF.2 rfl, fun hA => hA.2 rfl⟩
    · rw [upd_ne _ _ h1]
      exact ⟨fun hF => (h.own.out i hl1).1 hF.1, fun hA => (h.own.out i hl1).2 hA.1⟩
  · rw [upd_ne _ _ (Nat.ne_of_lt (Nat.lt_of_lt_of_le hi h.ids))]; exact h.ρk i hi

theorem R.congr {c c' : Cx} {st : PS} {a : Act} {w : World} (h : R c st a w) (hF : ∀ b, c'.F b → c.F b) (hA : ∀ b, c'.A0 b ↔ c.A0 b) (hk : c'.k = c.k) (hr : c'.ρ0 = c.ρ0) (hn : c'.n = c.n)
    (hfr : ∀ b, c'.F b → c.w0.heap[b]? = c'.w0.heap[b]?) (hg : c'.w0.heap.size ≤ c.w0.heap.size) (hs : Sw c'.w0 c.w0) (fF : ∀ b, c'.F b → b < c'.w0.heap.size) (fA : ∀ b, c'.A0 b → b < c'.w0.heap.size) : R c' st a w := by
  obtain ⟨ρ, h⟩ := h
  have e : c'.A0 = c.A0 := funext fun b => propext (hA b)
  refine ⟨ρ, ⟨h.own.bound, h.own.excl, h.own.inj, ?_, h.own.itb, fun i hi => ⟨fun hx => (h.own.out i hi).1 (hF _ hx), ?_⟩⟩, ?_, by rw [hn]; exact h.size, h.defers, fun b hb => (h.frame b (hF b hb)).trans (hfr b hb), Nat.le_trans hg h.grow, by rw [hk]; exact h.ids, by rw [hk, hr]; exact h.ρk, fF, fA, hs.trans h.sw⟩
  · rw [e]; exact h.own.blk
  · rw [e]; exact (h.own.out i hi).2
  · rw [e]; exact h.slots


theorem buildF_congr {st st' : PS} {t : TypeId} : ∀ (ps : List (Nat × Operand)) (cs : List PV), (∀ x ∈ ps.map (·.2), st'.ev x = st.ev x) → buildF P st' t ps cs = buildF P st t ps cs
  | [], _, _ => rfl
  | (i, x) :: ps, cs, h => by
    have hx := h x (by simp)
    simp only [buildF, hx]
    split
    · split
      · split
        · exact buildF_congr ps _ fun y hy => h y (by simp only [List.map_cons, List.mem_cons]; exact .inr hy)
        · rfl
      · rfl
    · rfl
theorem qv_congr {st st' : PS} {op : Op} (hH : st'.H = st.H) (h : ∀ x ∈ op.operands, st'.ev x = st.ev x) : qv P st' op = qv P st op := by
  cases op with
  | build t ps =>
    simp only [Op.operands] at h
    simp only [qv]
    split
    · rw [buildF_congr _ _ fun x hx => h x (by simpa using hx)]
    · rfl
  | slice t x lo hi mx =>
    cases mx with
    | none =>
      have hx := h x (by simp [Op.operands])
      have hlo : ∀ d, bndP st' d lo = bndP st d lo := fun d => by
        cases lo with
        | none => rfl
        | some y => have := h y (by simp [Op.operands]); simp only [bndP, this]
      have hhi : ∀ d, bndP st' d hi = bndP st d hi := fun d => by
        cases hi with
        | none => rfl
        | some y => have := h y (by simp [Op.operands]); simp only [bndP, this]
      simp only [qv, hx, hlo, hhi]
    | some m => simp only [qv]
  | makeFunc f first caps =>
    have hc : ∀ l : List Operand, (∀ x ∈ l, x ∈ caps.toList) → l.map st'.ev = l.map st.ev := fun l hl => List.map_congr_left fun x hx => h x (by
      have := hl x hx
      simp only [Op.operands, Array.mem_append]
      exact .inr (by simpa using this))
    cases f with
    | func g => simp only [qv, hc caps.toList (fun _ hx => hx)]
    | _ => rfl
  | call cc =>
    obtain ⟨callee, args, tys⟩ := cc
    have ha : ∀ x ∈ args.toList, st'.ev x = st.ev x := fun x hx => h x (by
      simp only [Op.operands, Call.operands, Array.mem_append]
      exact .inr (by simpa using hx))
    simp only [qv]
    split
    · rename_i x _ e2 _
      have := ha x (by rw [e2]; simp)
      simp only [this]
    · rename_i x _ e2 _
      have := ha x (by rw [e2]; simp)
      simp only [this]
    · rename_i x y _ _ e2 _
      have h1 := ha x (by rw [e2]; simp)
      have h2 := ha y (by rw [e2]; simp)
      simp only [h1, h2]
    · rfl
  | _ => first | rfl | (simp only [Op.operands] at h; simp only [qv, hH]; done) | (simp [Op.operands] at h; simp [qv, hH, h]; done)
end Go.Proofs.Ytfjdfnlkobeehaa
end
