/- Part 4 of the way to the statement: the walk and what it needs. -/
import Derived.Test.YtfjdfnlkobeehaaKDeF1
section
set_option linter.unusedVariables false
set_option linter.unusedSimpArgs false
namespace Go.Proofs.Ytfjdfnlkobeehaa

theorem RepL.length {E : En} : ∀ {cs : List PV} {vs : List Value}, RepL E cs vs → cs.length = vs.length
  | [], [], _ => rfl
  | _ :: _, _ :: _, h => by simp only [RepL] at h; simp [RepL.length h.2]
  | [], _ :: _, h => by simp [RepL] at h
  | _ :: _, [], h => by simp [RepL] at h

theorem RepL.get {E : En} : ∀ {cs : List PV} {vs : List Value}, RepL E cs vs → ∀ (i : Nat) (c : PV), cs[i]? = some c → ∃ v, vs[i]? = some v ∧ Rep E c v
  | [], [], _, i, c, hc => by simp at hc
  | p :: ps, v :: vs, h, 0, c, hc => by simp only [RepL] at h; simp at hc; subst hc; exact ⟨v, by simp, h.1⟩
  | p :: ps, v :: vs, h, i + 1, c, hc => by simp only [RepL] at h; simp at hc; obtain ⟨x, hx, hr⟩ := RepL.get h.2 i c hc; exact ⟨x, by simpa using hx, hr⟩
  | [], _ :: _, h, _, _, _ => by simp [RepL] at h
  | _ :: _, [], h, _, _, _ => by simp [RepL] at h

theorem RepL.append {E : En} : ∀ {cs ds : List PV} {vs us : List Value}, RepL E cs vs → RepL E ds us → RepL E (cs ++ ds) (vs ++ us)
  | [], _, [], _, _, h2 => h2
  | _ :: _, _, _ :: _, _, h, h2 => by simp only [RepL, List.cons_append] at h ⊢; exact ⟨h.1, RepL.append h.2 h2⟩
  | [], _, _ :: _, _, h, _ => by simp [RepL] at h
  | _ :: _, _, [], _, h, _ => by simp [RepL] at h

theorem RepL.drop {E : En} : ∀ {cs : List PV} {vs : List Value} (k : Nat), RepL E cs vs → RepL E (cs.drop k) (vs.drop k)
  | _, _, 0, h => by simpa using h
  | [], [], _ + 1, _ => by simp [RepL]
  | _ :: cs, _ :: vs, k + 1, h => by simp only [RepL] at h; simpa using RepL.drop k h.2
  | [], _ :: _, _ + 1, h => by simp [RepL] at h
  | _ :: _, [], _ + 1, h => by simp [RepL] at h

theorem RepL.take {E : En} : ∀ {cs : List PV} {vs : List Value} (k : Nat), RepL E cs vs → RepL E (cs.take k) (vs.take k)
  | _, _, 0, _ => by simp [RepL]
  | [], [], _ + 1, _ => by simp [RepL]
  | _ :: cs, _ :: vs, k + 1, h => by simp only [RepL] at h; simp only [List.take_succ_cons, RepL]; exact ⟨h.1, RepL.take k h.2⟩
  | [], _ :: _, _ + 1, h => by simp [RepL] at h
  | _ :: _, [], _ + 1, h => by simp [RepL] at h

theorem RepL.vals {E : En} : ∀ (vs : List Value), RepL E (vs.map .val) vs
  | [] => by simp [RepL]
  | v :: vs => by simp [RepL, Rep, RepL.vals vs]

theorem cell_of {w : World} {b o : Nat} {c : Array Value} {e : TypeId} {f : Nat × Nat} (h : w.heap[b]? = some (.cells c e f)) :
    w.cell? ⟨b, o, none⟩ = c[o]? := by simp [World.cell?, h]


theorem Row.of_block {E : En} {b : Nat} {c : Array Value} {e : TypeId} {f : Nat × Nat} (h : E.w.heap[b]? = some (.cells c e f)) :
    ∀ (cs : List PV) (o : Nat) (vs : List Value), RepL E cs vs → (∀ i, i < vs.length → c[o + i]? = vs[i]?) → Row E b o cs
  | [], _, _, _, _ => by simp [Row]
  | p :: ps, o, v :: vs, hr, hc => by
    simp only [RepL] at hr
    simp only [Row]
    refine ⟨⟨v, ?_, hr.1⟩, Row.of_block h ps (o + 1) vs hr.2 fun i hi => ?_⟩
    · have := hc 0 (by simp); rw [cell_of h]; simpa using this
    · have := hc (i + 1) (by simp; omega)
      rw [show o + 1 + i = o + (i + 1) from by omega, this]; simp
  | _ :: _, _, [], hr, _ => by simp [RepL] at hr

theorem Row.drop {E : En} {b : Nat} : ∀ {cs : List PV} {o : Nat} (k : Nat), Row E b o cs → Row E b (o + k) (cs.drop k)
  | _, _, 0, h => by simpa using h
  | [], _, _ + 1, _ => by simp [Row]
  | _ :: cs, o, k + 1, h => by
    simp only [Row] at h
    have := Row.drop (cs := cs) (o := o + 1) k h.2
    rw [show o + 1 + k = o + (k + 1) from by omega] at this
    simpa using this

theorem Row.take {E : En} {b : Nat} : ∀ {cs : List PV} {o : Nat} (k : Nat), Row E b o cs → Row E b o (cs.take k)
  | _, _, 0, _ => by simp [Row]
  | [], _, _ + 1, _ => by simp [Row]
  | _ :: cs, o, k + 1, h => by
    simp only [Row] at h
    simp only [List.take_succ_cons, Row]
    exact ⟨h.1, Row.take k h.2⟩


theorem Row.vals {E : En} {b : Nat} : ∀ {cs : List PV} {o : Nat}, Row E b o cs → ∃ vs, RepL E cs vs ∧ ∀ i, i < vs.length → E.w.cell? ⟨b, o + i, none⟩ = vs[i]?
  | [], _, _ => ⟨[], by simp [RepL], by simp⟩
  | c :: cs, o, h => by
    simp only [Row] at h
    obtain ⟨⟨v, hv, hr⟩, hs⟩ := h
    obtain ⟨vs, hrs, hc⟩ := Row.vals hs
    refine ⟨v :: vs, by simp only [RepL]; exact ⟨hr, hrs⟩, fun i hi => ?_⟩
    cases i with
    | zero => simpa using hv
    | succ i =>
      have := hc i (by simpa using hi)
      rw [show o + (i + 1) = o + 1 + i from by omega, this]; simp

structure PS where
  sl : Nat → PV
  H : Nat → Option (List PV)
  it : Nat → Option (ByteArray × Nat)
  nx : Nat

def upd {α : Type} (f : Nat → α) (i : Nat) (x : α) : Nat → α := fun j => if j = i then x else f j

theorem upd_self {α : Type} (f : Nat → α) (i : Nat) (x : α) : upd f i x i = x := by simp [upd]
theorem upd_ne {α : Type} (f : Nat → α) {i j : Nat} (x : α) (h : j ≠ i) : upd f i x j = f j := by simp [upd, h]

def PS.ev (st : PS) : Operand → PV
  | .tmp t => st.sl t
  | .const v => .val v
  | .global g => .val (.pointer (some ⟨g, 0, none⟩))
  | .func f => .fn f []

def PS.put (st : PS) (d : Option Nat) (p : PV) : PS :=
  match d with
  | some d => { st with sl := upd st.sl d p }
  | none => st

def Live (H : Nat → Option (List PV)) (it : Nat → Option (ByteArray × Nat)) (i : Nat) : Prop := (∃ cs, H i = some cs ∧ cs ≠ []) ∨ it i ≠ none
def OwnB (ρ : Nat → Nat) (H : Nat → Option (List PV)) (it : Nat → Option (ByteArray × Nat)) (b : Nat) : Prop := ∃ i, Live H it i ∧ ρ i = b


structure Cx where
  F : Nat → Prop
  w0 : World
  A0 : Nat → Prop
  ρ0 : Nat → Nat
  k : Nat
  n : Nat
  tb : List (Nat × List (Nat × List Nat))


abbrev enOf (A0 : Nat → Prop) (w : World) (ρ : Nat → Nat) (H : Nat → Option (List PV)) (it : Nat → Option (ByteArray × Nat)) (nx : Nat) : En :=
  ⟨w, ρ, nx, fun b => A0 b ∨ OwnB ρ H it b⟩

structure OwnOK (F A0 : Nat → Prop) (w : World) (ρ : Nat → Nat) (H : Nat → Option (List PV)) (it : Nat → Option (ByteArray × Nat)) (nx : Nat) : Prop where
  bound : ∀ i, (H i ≠ none ∨ it i ≠ none) → i < nx
  excl : ∀ i cs, H i = some cs → cs ≠ [] → it i = none
  inj : ∀ i j, Live H it i → Live H it j → ρ i = ρ j → i = j
  blk : ∀ i cs, H i = some cs → cs ≠ [] → ∃ (vs : Array Value) (e : TypeId), w.heap[ρ i]? = some (.cells vs e (0, 0)) ∧ RepL (enOf A0 w ρ H it nx) cs vs.toList
  itb : ∀ i s p, it i = some (s, p) → w.heap[ρ i]? = some (.stringIter s p)
  out : ∀ i, Live H it i → ¬ F (ρ i) ∧ ¬ A0 (ρ i)


def Sw (w w' : World) : Prop := w'.os = w.os ∧ w'.tape = w.tape ∧ w'.output = w.output
theorem Sw.refl (w : World) : Sw w w := ⟨rfl, rfl, rfl⟩
theorem Sw.trans {w1 w2 w3 : World} (h : Sw w1 w2) (h' : Sw w2 w3) : Sw w1 w3 := ⟨h'.1.trans h.1, h'.2.1.trans h.2.1, h'.2.2.trans h.2.2⟩

structure Rr (c : Cx) (st : PS) (a : Act) (w : World) (ρ : Nat → Nat) : Prop where
  own : OwnOK c.F c.A0 w ρ st.H st.it st.nx
  slots : ∀ t, Rep (enOf c.A0 w ρ st.H st.it st.nx) (st.sl t) (a.tmps.getD t undef)
  size : a.tmps.size = c.n
  defers : a.defers = []
  frame : ∀ b, c.F b → w.heap[b]? = c.w0.heap[b]?
  grow : c.w0.heap.size ≤ w.heap.size
  ids : c.k ≤ st.nx
  ρk : ∀ i, i < c.k → ρ i = c.ρ0 i
  fF : ∀ b, c.F b → b < c.w0.heap.size
  fA : ∀ b, c.A0 b → b < c.w0.heap.size
  sw : Sw c.w0 w

def R (c : Cx) (st : PS) (a : Act) (w : World) : Prop := ∃ ρ, Rr c st a w ρ

theorem lt_of_heap {w : World} {b : Nat} {o : Obj} (h : w.heap[b]? = some o) : b < w.heap.size := by
  rcases Nat.lt_or_ge b w.heap.size with h' | h'
  · exact h'
  · simp [Array.getElem?_eq_none h'] at h

theorem lt_of_cell {w : World} {b o : Nat} {v : Value} (h : w.cell? ⟨b, o, none⟩ = some v) : b < w.heap.size := by
  unfold World.cell? at h
  cases hb : w.heap[b]? with
  | none => simp [hb] at h
  | some x => exact lt_of_heap hb

theorem cell_congr {w w' : World} {b o : Nat} (h : w'.heap[b]? = w.heap[b]?) : w'.cell? ⟨b, o, none⟩ = w.cell? ⟨b, o, none⟩ := by
  simp only [World.cell?]
  rw [h]

theorem OwnOK.lt {F A0 : Nat → Prop} {w : World} {ρ : Nat → Nat} {H : Nat → Option (List PV)} {it : Nat → Option (ByteArray × Nat)} {nx : Nat}
    (h : OwnOK F A0 w ρ H it nx) {i : Nat} (hl : Live H it i) : ρ i < w.heap.size := by
  rcases hl with ⟨cs, hc, hne⟩ | hi
  · obtain ⟨vs, e, hb, _⟩ := h.blk i cs hc hne
    exact lt_of_heap hb
  · obtain ⟨⟨s, p⟩, hi'⟩ := Option.ne_none_iff_exists'.1 hi
    exact lt_of_heap (h.itb i s p hi')

theorem Live.lt {F A0 : Nat → Prop} {w : World} {ρ : Nat → Nat} {H : Nat → Option (List PV)} {it : Nat → Option (ByteArray × Nat)} {nx : Nat}
    (h : OwnOK F A0 w ρ H it nx) {i : Nat} (hl : Live H it i) : i < nx := by
  rcases hl with ⟨cs, hc, _⟩ | hi
  · exact h.bound i (.inl (by simp [hc]))
  · exact h.bound i (.inr hi)


theorem Rr.heap {c : Cx} {st : PS} {a : Act} {w w' : World} {ρ : Nat → Nat} (h : Rr c st a w ρ) (hw : w'.heap = w.heap) (hs : Sw w w' := by exact ⟨rfl, rfl, rfl⟩) : Rr c st a w' ρ := by
  have hle : En.le (enOf c.A0 w ρ st.H st.it st.nx) (enOf c.A0 w' ρ st.H st.it st.nx) :=
    ⟨fun b o v _ hv => (cell_congr (by rw [hw])).trans hv, fun _ _ _ hA _ => hA, Nat.le_refl _, fun _ _ => rfl⟩
  refine ⟨⟨h.own.bound, h.own.excl, h.own.inj, fun i cs hc hne => ?_, fun i s p hi => ?_, h.own.out⟩, fun t => Rep.mono hle _ _ (h.slots t), h.size, h.defers,
    fun b hb => by rw [hw]; exact h.frame b hb, by rw [hw]; exact h.grow, h.ids, h.ρk, h.fF, h.fA, h.sw.trans hs⟩
  · obtain ⟨vs, e, hb, hr⟩ := h.own.blk i cs hc hne
    exact ⟨vs, e, by rw [hw]; exact hb, RepL.mono hle _ _ hr⟩
  · rw [hw]; exact h.own.itb i s p hi

theorem R.heap {c : Cx} {st : PS} {a : Act} {w w' : World} (h : R c st a w) (hw : w'.heap = w.heap) (hs : Sw w w' := by exact ⟨rfl, rfl, rfl⟩) : R c st a w' := h.imp fun _ h => h.heap hw hs


theorem Rr.put {c : Cx} {st : PS} {a : Act} {w : World} {ρ : Nat → Nat} (h : Rr c st a w ρ) {d : Option Nat} (hd : ∀ x, d = some x → x < c.n) {p : PV} {v : Value}
    (hr : Rep (enOf c.A0 w ρ st.H st.it st.nx) p v) : Rr c (st.put d p) (a.put d v) w ρ := by
  cases d with
  | none => exact h
  | some d =>
    have hd := hd d rfl
    refine ⟨h.own, fun t => ?_, by simp [Act.put, h.size], by simp [Act.put, h.defers], h.frame, h.grow, h.ids, h.ρk, h.fF, h.fA, h.sw⟩
    simp only [PS.put, Act.put]
    by_cases ht : t = d
    · subst ht
      rw [upd_self]
      have : (a.tmps.setIfInBounds t v).getD t undef = v := by
        simp [h.size, hd]
      rw [this]; exact hr
    · rw [upd_ne _ _ ht]
      have : (a.tmps.setIfInBounds d v).getD t undef = a.tmps.getD t undef := by
        simp [Ne.symm ht]
      rw [this]; exact h.slots t

theorem Rr.ev {c : Cx} {st : PS} {a : Act} {w : World} {ρ : Nat → Nat} (h : Rr c st a w ρ) (x : Operand) : Rep (enOf c.A0 w ρ st.H st.it st.nx) (st.ev x) (a.eval x) := by
  cases x with
  | tmp t => exact h.slots t
  | const v => simp [PS.ev, Act.eval, Rep]
  | global g => simp [PS.ev, Act.eval, Rep]
  | func f => exact ⟨[], by simp [Act.eval], by simp [RepL]⟩


theorem Rr.new {c : Cx} {st : PS} {a : Act} {w : World} {ρ : Nat → Nat} (h : Rr c st a w ρ) {cs : List PV} {vs : Array Value} {e : TypeId}
    (hr : RepL (enOf c.A0 w ρ st.H st.it st.nx) cs vs.toList) {w' : World} (hw : w'.heap = w.heap.push (.cells vs e (0, 0))) (hs : Sw w w' := by exact ⟨rfl, rfl, rfl⟩) :
    Rr c { st with H := upd st.H st.nx (some cs), nx := st.nx + 1 } a w' (upd ρ st.nx w.heap.size) := by
  have hnone : st.H st.nx = none := by
    cases hc : st.H st.nx with
    | none => rfl
    | some x => exact absurd (h.own.bound st.nx (.inl (by simp [hc]))) (Nat.lt_irrefl _)
  have hit : st.it st.nx = none := by
    cases hc : st.it st.nx with
    | none => rfl
    | some x => exact absurd (h.own.bound st.nx (.inr (by simp [hc]))) (Nat.lt_irrefl _)
  have hold : ∀ b, b < w.heap.size → w'.heap[b]? = w.heap[b]? := fun b hb => by
    rw [hw, Array.getElem?_push]; simp [Nat.ne_of_lt hb]
  have hlive : ∀ i, Live (upd st.H st.nx (some cs)) st.it i → (i = st.nx ∧ cs ≠ []) ∨ (i ≠ st.nx ∧ i < st.nx ∧ Live st.H st.it i) := by
    intro i hl
    by_cases hi : i = st.nx
    · subst hi
      rcases hl with ⟨ds, hd, hne⟩ | hx
      · rw [upd_self] at hd; simp at hd; subst hd; exact .inl ⟨rfl, hne⟩
      · exact absurd hit hx
    · have hl' : Live st.H st.it i := by
        rcases hl with ⟨ds, hd, hne⟩ | hx
        · rw [upd_ne _ _ hi] at hd; exact .inl ⟨ds, hd, hne⟩
        · exact .inr hx
      exact .inr ⟨hi, Live.lt h.own hl', hl'⟩
  have hle : En.le (enOf c.A0 w ρ st.H st.it st.nx) (enOf c.A0 w' (upd ρ st.nx w.heap.size) (upd st.H st.nx (some cs)) st.it (st.nx + 1)) := by
    refine ⟨fun b o v _ hv => ?_, fun b o v hA hv hA' => ?_, Nat.le_succ _, fun i hi => upd_ne _ _ (Nat.ne_of_lt hi)⟩
    · exact (cell_congr (hold b (lt_of_cell hv))).trans hv
    · rcases hA' with h0 | ⟨i, hl, hb⟩
      · exact hA (.inl h0)
      · rcases hlive i hl with ⟨hi, _⟩ | ⟨hi, _, hl'⟩
        · subst hi; rw [upd_self] at hb; have := lt_of_cell hv; simp at this; omega
        · rw [upd_ne _ _ hi] at hb; exact hA (.inr ⟨i, hl', hb⟩)
  refine ⟨⟨fun i hi => ?_, fun i ds hd hne => ?_, fun i j hi hj he => ?_, fun i ds hd hne => ?_, fun i s p hi => ?_, fun i hi => ?_⟩, fun t => Rep.mono hle _ _ (h.slots t), h.size, h.defers,
    fun b hb => ?_, ?_, Nat.le_succ_of_le h.ids, fun i hi => ?_, h.fF, h.fA, h.sw.trans hs⟩
  · by_cases hx : i = st.nx
    · exact hx ▸ Nat.lt_succ_self _
    · simp only [upd_ne _ _ hx] at hi; exact Nat.lt_succ_of_lt (h.own.bound i hi)
  · by_cases hx : i = st.nx
    · subst hx; exact hit
    · simp only [upd_ne _ _ hx] at hd; exact h.own.excl i _ hd hne
  · rcases hlive i hi with ⟨h1, _⟩ | ⟨h1, _, hl1⟩ <;> rcases hlive j hj with ⟨h2, _⟩ | ⟨h2, _, hl2⟩
    · omega
    · subst h1; rw [upd_self, upd_ne _ _ h2] at he; have := h.own.lt hl2; omega
    · subst h2; rw [upd_self, upd_ne _ _ h1] at he; have := h.own.lt hl1; omega
    · rw [upd_ne _ _ h1, upd_ne _ _ h2] at he; exact h.own.inj i j hl1 hl2 he
  · have hd : upd st.H st.nx (some cs) i = some ds := hd
    by_cases hx : i = st.nx
    · subst hx
      rw [upd_self] at hd; simp at hd; subst hd
      refine ⟨vs, e, ?_, RepL.mono hle _ _ hr⟩
      rw [upd_self, hw]; simp
    · rw [upd_ne _ _ hx] at hd
      obtain ⟨us, e', hb, hr'⟩ := h.own.blk i ds hd hne
      exact ⟨us, e', by rw [upd_ne _ _ hx, hold _ (lt_of_heap hb)]; exact hb, RepL.mono hle _ _ hr'⟩
  · have hx : i ≠ st.nx := fun e => by subst e; simp [hit] at hi
    have := h.own.itb i s p hi
    rw [upd_ne _ _ hx, hold _ (lt_of_heap this)]; exact this
  · rcases hlive i hi with ⟨h1, _⟩ | ⟨h1, _, hl1⟩
    · subst h1; rw [upd_self]
      exact ⟨fun hF => by have := h.fF _ hF; have := h.grow; omega, fun hA => by have := h.fA _ hA; have := h.grow; omega⟩
    · rw [upd_ne _ _ h1]; exact h.own.out i hl1
  · rw [hold b (Nat.lt_of_lt_of_le (h.fF b hb) h.grow)]; exact h.frame b hb
  · rw [hw]; simp; have := h.grow; omega
  · rw [upd_ne _ _ (Nat.ne_of_lt (Nat.lt_of_lt_of_le hi h.ids))]; exact h.ρk i hi


theorem Rr.set {c : Cx} {st : PS} {a : Act} {w : World} {ρ : Nat → Nat} (h : Rr c st a w ρ) {id : Nat} {cs cs' : List PV} (hc : st.H id = some cs) (hne : cs ≠ [])
    {vs : Array Value} {e : TypeId} (hr : RepL (enOf c.A0 w ρ st.H st.it st.nx) cs' vs.toList) (hne' : cs' ≠ [])
    {w' : World} (hw : w'.heap = w.heap.setIfInBounds (ρ id) (.cells vs e (0, 0))) (hs : Sw w w' := by exact ⟨rfl, rfl, rfl⟩) :
    Rr c { st with H := upd st.H id (some cs') } a w' ρ := by
  have hid : Live st.H st.it id := .inl ⟨cs, hc, hne⟩
  have hold : ∀ b, b ≠ ρ id → w'.heap[b]? = w.heap[b]? := fun b hb => by
    rw [hw, Array.getElem?_setIfInBounds]; simp [Ne.symm hb]
  have hlive : ∀ i, Live (upd st.H id (some cs')) st.it i ↔ Live st.H st.it i := by
    intro i
    by_cases hi : i = id
    · subst hi; exact ⟨fun _ => hid, fun _ => .inl ⟨cs', upd_self _ _ _, hne'⟩⟩
    · unfold Live; rw [upd_ne _ _ hi]
  have hA : ∀ b, (c.A0 b ∨ OwnB ρ (upd st.H id (some cs')) st.it b) ↔ (c.A0 b ∨ OwnB ρ st.H st.it b) := by
    intro b; unfold OwnB; simp only [hlive]
  have hle : En.le (enOf c.A0 w ρ st.H st.it st.nx) (enOf c.A0 w' ρ (upd st.H id (some cs')) st.it st.nx) := by
    refine ⟨fun b o v hn hv => ?_, fun b o v hn hv hA' => hn ((hA b).1 hA'), Nat.le_refl _, fun i hi => rfl⟩
    exact (cell_congr (hold b fun e => hn (.inr ⟨id, hid, e.symm⟩))).trans hv
  have hlt := h.own.lt hid
  refine ⟨⟨fun i hi => ?_, fun i ds hd hnd => ?_, fun i j hi hj he => ?_, fun i ds hd hnd => ?_, fun i s p hi => ?_, fun i hi => ?_⟩, fun t => Rep.mono hle _ _ (h.slots t), h.size, h.defers,
    fun b hb => ?_, ?_, h.ids, h.ρk, h.fF, h.fA, h.sw.trans hs⟩
  · by_cases hx : i = id
    · subst hx; exact h.own.bound i (.inl (by simp [hc]))
    · simp only [upd_ne _ _ hx] at hi; exact h.own.bound i hi
  · by_cases hx : i = id
    · subst hx; exact h.own.excl i _ hc hne
    · simp only [upd_ne _ _ hx] at hd; exact h.own.excl i _ hd hnd
  · exact h.own.inj i j ((hlive i).1 hi) ((hlive j).1 hj) he
  · have hd : upd st.H id (some cs') i = some ds := hd
    by_cases hx : i = id
    · subst hx
      rw [upd_self] at hd; simp at hd; subst hd
      exact ⟨vs, e, by rw [hw, Array.getElem?_setIfInBounds]; simp [hlt], RepL.mono hle _ _ hr⟩
    · rw [upd_ne _ _ hx] at hd
      obtain ⟨us, e', hb, hr'⟩ := h.own.blk i ds hd hnd
      exact ⟨us, e', by rw [hold _ fun e => hx (h.own.inj i id (.inl ⟨ds, hd, hnd⟩) hid e)]; exact hb, RepL.mono hle _ _ hr'⟩
  · have hi : st.it i = some (s, p) := hi
    have := h.own.itb i s p hi
    rw [hold _ fun e => ?_]; exact this
    have := h.own.inj i id (.inr (by simp [hi])) hid e
    subst this
    have := h.own.excl i _ hc hne; simp [this] at hi
  · exact h.own.out i ((hlive i).1 hi)
  · rw [hold b fun e => (h.own.out id hid).1 (e ▸ hb)]; exact h.frame b hb
  · rw [hw]; simpa using h.grow

end Go.Proofs.Ytfjdfnlkobeehaa
end
