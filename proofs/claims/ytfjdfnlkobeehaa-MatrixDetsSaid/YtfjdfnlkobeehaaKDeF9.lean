/- Part 9 of the way to the statement: the walk and what it needs. -/
import Derived.Test.YtfjdfnlkobeehaaKDeF8
section
set_option linter.unusedVariables false
set_option linter.unusedSimpArgs false
namespace Go.Proofs.Ytfjdfnlkobeehaa

variable {P : Program}

theorem setCell_heap {w : World} {b o : Nat} {v : Value} {c : Array Value} {e : TypeId} {f : Nat × Nat} (h : w.heap[b]? = some (.cells c e f)) :
    (w.setCell ⟨b, o, none⟩ v).heap = w.heap.setIfInBounds b (.cells (c.setIfInBounds o v) e f) := by
  apply Array.ext_getElem?
  intro i
  unfold World.setCell
  simp only [Array.getElem?_modify, Array.getElem?_setIfInBounds]
  by_cases hi : b = i
  · subst hi
    have := lt_of_heap h
    rw [h]
    simp [this]
  · simp [hi]

theorem setCells_sw (b : Nat) : ∀ (vs : List Value) (o : Nat) (w : World), Sw w (w.setCells b o vs)
  | [], _, w => by simp only [World.setCells]; exact Sw.refl w
  | v :: vs, o, w => by
    simp only [World.setCells]
    exact Sw.trans ⟨rfl, rfl, rfl⟩ (setCells_sw b vs (o + 1) _)

theorem setCells_heap (b : Nat) {e : TypeId} {f : Nat × Nat} : ∀ (vs : List Value) (o : Nat) (w : World) (c : Array Value), w.heap[b]? = some (.cells c e f) → o + vs.length ≤ c.size →
    (w.setCells b o vs).heap = w.heap.setIfInBounds b (.cells (spl c.toList o vs).toArray e f)
  | [], o, w, c, h, _ => by
    have : (spl c.toList o []).toArray = c := by apply Array.ext'; simp [spl]
    rw [this]
    apply Array.ext_getElem?
    intro i
    simp only [World.setCells, Array.getElem?_setIfInBounds]
    by_cases hi : b = i
    · subst hi
      have := lt_of_heap h
      rw [h]
      simp [this]
    · simp [hi]
  | v :: vs, o, w, c, h, hl => by
    simp only [List.length_cons] at hl
    have h1 := setCell_heap (o := o) (v := v) h
    have hb := lt_of_heap h
    have h2 : (w.setCell ⟨b, o, none⟩ v).heap[b]? = some (.cells (c.setIfInBounds o v) e f) := by rw [h1]; simp [hb]
    rw [World.setCells, setCells_heap b vs (o + 1) _ _ h2 (by simp; omega), h1]
    apply Array.ext_getElem?
    intro i
    simp only [Array.getElem?_setIfInBounds]
    by_cases hi : b = i
    · subst hi
      simp only [Array.size_setIfInBounds, hb, if_true]
      congr 2
      apply congrArg List.toArray
      apply List.ext_getElem?
      intro j
      rw [spl_get (by simp; omega), spl_get (by simp; omega)]
      simp only [Array.toList_setIfInBounds, List.getElem?_set, List.length_cons]
      by_cases h3 : j < o
      · have e1 : j < o + 1 := by omega
        have e2 : ¬ o = j := by omega
        simp [h3, e1, e2]
      · by_cases h4 : j = o
        · subst h4
          have e4 : j < c.size := by omega
          simp [e4]
        · have e1 : ¬ j < o + 1 := by omega
          have e2 : ¬ o = j := by omega
          simp only [h3, e1, e2, if_false]
          by_cases h5 : j < o + 1 + vs.length
          · rw [if_pos h5, if_pos (by omega), show j - o = j - (o + 1) + 1 from by omega, List.getElem?_cons_succ]
          · rw [if_neg h5, if_neg (by omega)]
    · simp [hi]

theorem oneP_rep {E : En} {p : PV} {v : Value} (h : Rep E p v) (hp : oneP p = true) : v.oneCell' = true := by
  cases p with
  | any => simp [oneP] at hp
  | agg _ => simp [oneP] at hp
  | tup _ => simp [oneP] at hp
  | val x => simp only [Rep] at h; subst h; exact hp
  | sl n cs => simp only [Rep] at h; rcases h with ⟨_, _, ad, rfl⟩ | ⟨b, o, cap, rfl, _⟩ <;> rfl
  | ref id off n cap z => simp only [Rep] at h; obtain ⟨_, _, rfl | ⟨_, _, rfl⟩⟩ := h <;> rfl
  | ptr id off => simp only [Rep] at h; obtain ⟨_, rfl⟩ := h; rfl
  | rp cs => simp only [Rep] at h; obtain ⟨_, _, rfl, _⟩ := h; rfl
  | fn f cs => simp only [Rep] at h; obtain ⟨_, rfl, _⟩ := h; rfl

theorem oneP_repL {E : En} : ∀ {cs : List PV} {vs : List Value}, RepL E cs vs → cs.all oneP = true → ∀ v ∈ vs, v.oneCell' = true
  | [], [], _, _, v, hv => by simp at hv
  | c :: cs, u :: vs, h, ho, v, hv => by
    simp only [RepL] at h
    simp only [List.all_cons, Bool.and_eq_true] at ho
    rcases List.mem_cons.1 hv with rfl | hv
    · exact oneP_rep h.1 ho.1
    · exact oneP_repL h.2 ho.2 v hv
  | [], _ :: _, h, _, _, _ => by simp [RepL] at h
  | _ :: _, [], h, _, _, _ => by simp [RepL] at h

theorem isAny_of_one {p : PV} (h : (cellsP p).all oneP = true) : isAny p = false := by
  cases p <;> first | rfl | (simp [cellsP, oneP] at h)

theorem storeVar_run {t : TypeId} {n b o : Nat} {v : Value} {w : World} {c : Array Value} {e : TypeId} (hs : sizeT P t = some n) (hc : w.heap[b]? = some (.cells c e (0, 0))) (hn : v.cells.size = n)
    (hl : o + n ≤ c.size) (h1 : ∀ u ∈ v.cells.toList, u.oneCell' = true) : (storeVar t ⟨b, o, none⟩ v).run P w = .ok () (w.setCells b o v.cells.toList) := by
  have := run_storeCells_cells (P := P) b o v.cells.toList 0 w (fun j hj => by
      rw [cell_of hc]; simp at hj; simp; omega) (fun j hj => by simp [World.frozen?, hc]) h1
  simp only [Nat.add_zero] at this
  simp [storeVar, sizeT_some hs, hn, this]

theorem Rr.newPut {c : Cx} {st : PS} {a : Act} {w : World} {ρ : Nat → Nat} (h : Rr c st a w ρ) {cs : List PV} {vs : Array Value} {e : TypeId}
    (hr : RepL (enOf c.A0 w ρ st.H st.it st.nx) cs vs.toList) {w' : World} (hw : w'.heap = w.heap.push (.cells vs e (0, 0)))
    {d : Option Nat} (hd : ∀ x, d = some x → x < c.n) {p : PV} {v : Value}
    (hp : (∃ off, p = .ptr st.nx off ∧ v = .pointer (some ⟨w.heap.size, off, none⟩)) ∨ (∃ off n cap sz, n ≤ cap ∧ p = .ref st.nx off n cap sz ∧ v = .slice (some ⟨w.heap.size, off, none⟩) n cap)) (hs : Sw w w' := by exact ⟨rfl, rfl, rfl⟩) :
    R c ((st.new cs).put d p) (a.put d v) w' := by
  have h' := h.new hr hw hs
  refine ⟨_, h'.put hd (p := p) (v := v) ?_⟩
  rcases hp with ⟨off, rfl, rfl⟩ | ⟨off, n, cap, sz, hle, rfl, rfl⟩
  · simp only [Rep]; exact ⟨Nat.lt_succ_self _, by rw [upd_self]⟩
  · simp only [Rep]; exact ⟨Nat.lt_succ_self _, hle, .inl (by rw [upd_self])⟩

theorem made_eq {z : Array Value} {n : Nat} (h : z.size = n) : ∀ m : Nat, (madeCells z (m * n)).toList = repl m z.toList := by
  subst h
  intro m
  apply List.ext_getElem
  · simp [madeCells, repl]
  · intro i h1 h2
    simp [madeCells] at h1
    have hz : 0 < z.size := by
      rcases Nat.eq_zero_or_pos z.size with h0 | h0
      · simp [h0] at h1
      · exact h0
    have key : ∀ (m i : Nat) (h : i < (repl m z.toList).length), (repl m z.toList)[i] = z[i % z.size]'(Nat.mod_lt _ hz) := by
      intro m
      induction m with
      | zero => intro i h; simp [repl] at h
      | succ m ih =>
        intro i h
        have e : repl (m + 1) z.toList = z.toList ++ repl m z.toList := by simp [repl, List.replicate_succ]
        simp only [e] at h ⊢
        rw [List.getElem_append]
        split
        · rename_i hi
          simp at hi
          simp [Nat.mod_eq_of_lt hi]
        · rename_i hi
          simp at hi
          have h3 : i - z.size < (repl m z.toList).length := by
            have h4 := h
            simp only [List.length_append, Array.length_toList] at h4
            omega
          have := ih (i - z.size) h3
          simp only [Array.length_toList]
          rw [this]
          congr 1
          rw [Nat.mod_eq_sub_mod hi]
    rw [key m i h2]
    simp [madeCells, Nat.mod_lt _ hz]

theorem repl_map {α β : Type} (f : α → β) (n : Nat) (l : List α) : repl n (l.map f) = (repl n l).map f := by
  simp [repl, List.map_flatten]

theorem bytesT_some {t : TypeId} {b : Nat} (h : bytesT P t = some b) : ∃ i, P.info? t = some i ∧ i.bytes = b := by
  unfold bytesT at h
  cases hi : P.info? t with
  | none => simp [hi] at h
  | some i => simp [hi] at h; exact ⟨i, rfl, h⟩

theorem info_all {t : TypeId} {b sz : Nat} {z : List Value} (hb : bytesT P t = some b) (hs : sizeT P t = some sz) (hz : zeroT P t = some z) :
    ∃ i v, P.info? t = some i ∧ i.bytes = b ∧ i.size = sz ∧ i.zero = some v ∧ v.cells.toList = z := by
  obtain ⟨i, hi, rfl⟩ := bytesT_some hb
  unfold sizeT at hs
  unfold zeroT at hz
  rw [hi] at hs hz
  simp at hs hz
  obtain ⟨v, hv, rfl⟩ := hz
  exact ⟨i, v, hi, rfl, hs, hv, rfl⟩

theorem fillP_sound {c : Cx} {st : PS} {a : Act} {w : World} {ρ : Nat → Nat} (h : Rr c st a w ρ) {sz : Nat} :
    ∀ (ps : List (Nat × Operand)) (cs : List PV) (vs : List Value) (out : List PV), RepL (enOf c.A0 w ρ st.H st.it st.nx) cs vs → fillP st sz ps cs = some out →
    ∃ us : List Value, Instr.fill (fun i => some (i * sz, sz)) vs.toArray (ps.map fun p => (p.1, a.eval p.2)) = some us.toArray ∧ RepL (enOf c.A0 w ρ st.H st.it st.nx) out us
  | [], cs, vs, out, hr, hb => by
    simp [fillP] at hb; subst hb
    exact ⟨vs, by simp [Instr.fill], hr⟩
  | (i, x) :: ps, cs, vs, out, hr, hb => by
    simp only [fillP] at hb
    split at hb
    · rename_i hc
      obtain ⟨h1, h2, h3⟩ := hc
      have hcr := cells_rep (h.ev x) h3
      obtain ⟨us, hfill, hus⟩ := fillP_sound h ps _ _ out (RepL.spl (i * sz) hr hcr) hb
      refine ⟨us, ?_, hus⟩
      have hlen := RepL.length hcr
      have hlen2 := RepL.length hr
      have hsz : (a.eval x).cells.size = sz := by rw [← h1, hlen]; simp
      have e2 : ((a.eval x).cells.size ≠ sz) = False := by simp [hsz]
      have e3 : (i * sz + (a.eval x).cells.size > vs.toArray.size) = False := by
        simp; rw [← hlen2]; omega
      simp only [List.map_cons, Instr.fill, e2, e3]
      have := foldl_set (a.eval x).cells.toList (i * sz) vs.toArray (by simp [hsz]; omega)
      have e4 : ((a.eval x).cells.zipIdx.foldl (fun cs (c, j) => cs.setIfInBounds (i * sz + j) c) vs.toArray) = (spl vs (i * sz) (a.eval x).cells.toList).toArray := by
        rw [← Array.foldl_toList, Array.toList_zipIdx]
        exact this
      rw [if_neg (by simp), e4]
      exact hfill
    · simp at hb


theorem Rr.newIter {c : Cx} {st : PS} {a : Act} {w : World} {ρ : Nat → Nat} (h : Rr c st a w ρ) {s : ByteArray} {w' : World} (hw : w'.heap = w.heap.push (.stringIter s 0)) (hs : Sw w w' := by exact ⟨rfl, rfl, rfl⟩) :
    Rr c { st with it := upd st.it st.nx (some (s, 0)), nx := st.nx + 1 } a w' (upd ρ st.nx w.heap.size) := by
  have hnone : st.H st.nx = none := by
    cases hc : st.H st.nx with
    | none => rfl
    | some x => exact absurd (h.own.bound st.nx (.inl (by simp [hc]))) (Nat.lt_irrefl _)
  have hold : ∀ b, b < w.heap.size → w'.heap[b]? = w.heap[b]? := fun b hb => by
    rw [hw, Array.getElem?_push]; simp [Nat.ne_of_lt hb]
  have hlive : ∀ i, Live st.H (upd st.it st.nx (some (s, 0))) i → i = st.nx ∨ (i ≠ st.nx ∧ i < st.nx ∧ Live st.H st.it i) := by
    intro i hl
    by_cases hi : i = st.nx
    · exact .inl hi
    · have hl' : Live st.H st.it i := by
        rcases hl with hl | hx
        · exact .inl hl
        · rw [upd_ne _ _ hi] at hx; exact .inr hx
      exact .inr ⟨hi, Live.lt h.own hl', hl'⟩
  have hle : En.le (enOf c.A0 w ρ st.H st.it st.nx) (enOf c.A0 w' (upd ρ st.nx w.heap.size) st.H (upd st.it st.nx (some (s, 0))) (st.nx + 1)) := by
    refine ⟨fun b o v _ hv => ?_, fun b o v hA hv hA' => ?_, Nat.le_succ _, fun i hi => upd_ne _ _ (Nat.ne_of_lt hi)⟩
    · exact (cell_congr (hold b (lt_of_cell hv))).trans hv
    · rcases hA' with h0 | ⟨i, hl, hb⟩
      · exact hA (.inl h0)
      · rcases hlive i hl with hi | ⟨hi, _, hl'⟩
        · subst hi; rw [upd_self] at hb; have := lt_of_cell hv; simp at this; omega
        · rw [upd_ne _ _ hi] at hb; exact hA (.inr ⟨i, hl', hb⟩)
  refine ⟨⟨fun i hi => ?_, fun i ds hd hne => ?_, fun i j hi hj he => ?_, fun i ds hd hne => ?_, fun i s' p hi => ?_, fun i hi => ?_⟩, fun t => Rep.mono hle _ _ (h.slots t), h.size, h.defers,
    fun b hb => ?_, ?_, Nat.le_succ_of_le h.ids, fun i hi => ?_, h.fF, h.fA, h.sw.trans hs⟩
  · by_cases hx : i = st.nx
    · exact hx ▸ Nat.lt_succ_self _
    · simp only [upd_ne _ _ hx] at hi; exact Nat.lt_succ_of_lt (h.own.bound i hi)
  · have hd : st.H i = some ds := hd
    by_cases hx : i = st.nx
    · subst hx; simp [hnone] at hd
    · show upd st.it st.nx (some (s, 0)) i = none
      rw [upd_ne _ _ hx]; exact h.own.excl i ds hd hne
  · rcases hlive i hi with h1 | ⟨h1, _, hl1⟩ <;> rcases hlive j hj with h2 | ⟨h2, _, hl2⟩
    · omega
    · subst h1; rw [upd_self, upd_ne _ _ h2] at he; have := h.own.lt hl2; omega
    · subst h2; rw [upd_self, upd_ne _ _ h1] at he; have := h.own.lt hl1; omega
    · rw [upd_ne _ _ h1, upd_ne _ _ h2] at he; exact h.own.inj i j hl1 hl2 he
  · have hd : st.H i = some ds := hd
    have hx : i ≠ st.nx := fun e => by subst e; simp [hnone] at hd
    obtain ⟨us, e', hb, hr'⟩ := h.own.blk i ds hd hne
    exact ⟨us, e', by rw [upd_ne _ _ hx, hold _ (lt_of_heap hb)]; exact hb, RepL.mono hle _ _ hr'⟩
  · have hi : upd st.it st.nx (some (s, 0)) i = some (s', p) := hi
    by_cases hx : i = st.nx
    · subst hx
      rw [upd_self] at hi; simp at hi
      obtain ⟨rfl, rfl⟩ := hi
      rw [upd_self, hw]; simp
    · rw [upd_ne _ _ hx] at hi
      have := h.own.itb i s' p hi
      rw [upd_ne _ _ hx, hold _ (lt_of_heap this)]; exact this
  · rcases hlive i hi with h1 | ⟨h1, _, hl1⟩
    · subst h1; rw [upd_self]
      exact ⟨fun hF => by have := h.fF _ hF; have := h.grow; omega, fun hA => by have := h.fA _ hA; have := h.grow; omega⟩
    · rw [upd_ne _ _ h1]; exact h.own.out i hl1
  · rw [hold b (Nat.lt_of_lt_of_le (h.fF b hb) h.grow)]; exact h.frame b hb
  · rw [hw]; simp; have := h.grow; omega
  · rw [upd_ne _ _ (Nat.ne_of_lt (Nat.lt_of_lt_of_le hi h.ids))]; exact h.ρk i hi


theorem Rr.setIter {c : Cx} {st : PS} {a : Act} {w : World} {ρ : Nat → Nat} (h : Rr c st a w ρ) {id : Nat} {s : ByteArray} {p p' : Nat} (hc : st.it id = some (s, p))
    {w' : World} (hw : w'.heap = w.heap.setIfInBounds (ρ id) (.stringIter s p')) (hs : Sw w w' := by exact ⟨rfl, rfl, rfl⟩) : Rr c { st with it := upd st.it id (some (s, p')) } a w' ρ := by
  have hid : Live st.H st.it id := .inr (by simp [hc])
  have hold : ∀ b, b ≠ ρ id → w'.heap[b]? = w.heap[b]? := fun b hb => by
    rw [hw, Array.getElem?_setIfInBounds]; simp [Ne.symm hb]
  have hlive : ∀ i, Live st.H (upd st.it id (some (s, p'))) i ↔ Live st.H st.it i := by
    intro i
    by_cases hi : i = id
    · subst hi; exact ⟨fun _ => hid, fun _ => .inr (by rw [upd_self]; simp)⟩
    · unfold Live; rw [upd_ne _ _ hi]
  have hA : ∀ b, (c.A0 b ∨ OwnB ρ st.H (upd st.it id (some (s, p'))) b) ↔ (c.A0 b ∨ OwnB ρ st.H st.it b) := by
    intro b; unfold OwnB; simp only [hlive]
  have hle : En.le (enOf c.A0 w ρ st.H st.it st.nx) (enOf c.A0 w' ρ st.H (upd st.it id (some (s, p'))) st.nx) := by
    refine ⟨fun b o v hn hv => ?_, fun b o v hn hv hA' => hn ((hA b).1 hA'), Nat.le_refl _, fun i hi => rfl⟩
    exact (cell_congr (hold b fun e => hn (.inr ⟨id, hid, e.symm⟩))).trans hv
  have hlt := h.own.lt hid
  refine ⟨⟨fun i hi => ?_, fun i ds hd hnd => ?_, fun i j hi hj he => ?_, fun i ds hd hnd => ?_, fun i s' q hi => ?_, fun i hi => ?_⟩, fun t => Rep.mono hle _ _ (h.slots t), h.size, h.defers,
    fun b hb => ?_, ?_, h.ids, h.ρk, h.fF, h.fA, h.sw.trans hs⟩
  · by_cases hx : i = id
    · subst hx; exact h.own.bound i (.inr (by simp [hc]))
    · simp only [upd_ne _ _ hx] at hi; exact h.own.bound i hi
  · have hd : st.H i = some ds := hd
    by_cases hx : i = id
    · subst hx; have := h.own.excl i ds hd hnd; simp [hc] at this
    · show upd st.it id (some (s, p')) i = none
      rw [upd_ne _ _ hx]; exact h.own.excl i ds hd hnd
  · exact h.own.inj i j ((hlive i).1 hi) ((hlive j).1 hj) he
  · have hd : st.H i = some ds := hd
    obtain ⟨us, e', hb, hr'⟩ := h.own.blk i ds hd hnd
    refine ⟨us, e', ?_, RepL.mono hle _ _ hr'⟩
    rw [hold _ fun e => ?_]; exact hb
    have := h.own.inj i id (.inl ⟨ds, hd, hnd⟩) hid e
    subst this; have := h.own.excl i ds hd hnd; simp [hc] at this
  · have hi : upd st.it id (some (s, p')) i = some (s', q) := hi
    by_cases hx : i = id
    · subst hx
      rw [upd_self] at hi; simp at hi
      obtain ⟨rfl, rfl⟩ := hi
      rw [hw, Array.getElem?_setIfInBounds]; simp [hlt]
    · rw [upd_ne _ _ hx] at hi
      rw [hold _ fun e => hx (h.own.inj i id (.inr (by simp [hi])) hid e)]; exact h.own.itb i s' q hi
  · exact h.own.out i ((hlive i).1 hi)
  · rw [hold b fun e => (h.own.out id hid).1 (e ▸ hb)]; exact h.frame b hb
  · rw [hw]; simpa using h.grow

end Go.Proofs.Ytfjdfnlkobeehaa
end
