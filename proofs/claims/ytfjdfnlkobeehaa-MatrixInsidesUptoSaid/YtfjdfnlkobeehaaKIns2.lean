/- Part 2 of the way to the statement: the walk and what it needs. -/
import Derived.Test.YtfjdfnlkobeehaaKIns1
section
set_option linter.unusedVariables false
set_option linter.unusedSimpArgs false
namespace Go.Proofs.Ytfjdfnlkobeehaa

variable {P : Program}


def Nx (c : Cx) (K : PS → Prop) : Act → World → Prop := fun a w => ∃ st, K st ∧ R c st a w

theorem upon_val {o : Oper} {a : Act} {w w' : World} {v : Value} {K : Act → World → Prop} {Q : Exit → Act → World → Prop}
    (h : (execOp a.eval o).run P w = .ok (.value v) w') (hk : K (a.put o.dst v) w') : o.wp P a w K Q := by
  unfold Oper.wp; rw [h]; exact hk

theorem upon_skip {o : Oper} {a : Act} {w w' : World} {K : Act → World → Prop} {Q : Exit → Act → World → Prop}
    (h : (execOp a.eval o).run P w = .ok .skip w') (hk : K (a.put o.dst undef) w') : o.wp P a w K Q := by
  unfold Oper.wp; rw [h]; exact hk

theorem run_val {s : Sem Value} {v : Value} {w w' : World} (h : s.run P w = .ok v w') : (do pure (.value (← s)) : Sem Next).run P w = .ok (.value v) w' := by
  simp [h]

theorem quiet_wp {c : Cx} {st : PS} {a : Act} {w : World} {ρ : Nat → Nat} (h : Rr c st a w ρ) {o : Oper} (hd : ∀ x, o.dst = some x → x < c.n) {K : PS → Prop} {Q : Exit → Act → World → Prop}
    (hp : ∃ p, qv P st o.op = some p ∧ K (st.put o.dst p)) : o.wp P a w (Nx c K) Q := by
  obtain ⟨p, hq, hK⟩ := hp
  obtain ⟨v, hv, hr⟩ := qv_sound h o hq
  exact upon_val hv ⟨_, hK, ρ, h.put hd hr⟩

theorem store_wp {c : Cx} {st : PS} {a : Act} {w : World} {ρ : Nat → Nat} (h : Rr c st a w ρ) {o : Oper} (hd : ∀ x, o.dst = some x → x < c.n) {K : PS → Prop} {Q : Exit → Act → World → Prop}
    {t : TypeId} {x y : Operand} (ho : o.op = .store t x y) (hp : pStore P st t (st.ev x) (st.ev y) fun st' => K (st'.put o.dst (.val undef))) : o.wp P a w (Nx c K) Q := by
  obtain ⟨n, hs, hn, id, off, hx, cs, hc, hlen, hcl, hone, hK⟩ := hp
  have hrx := h.ev x
  rw [hx] at hrx
  simp only [Rep] at hrx
  obtain ⟨hid, hvx⟩ := hrx
  have hcr := cells_rep (h.ev y) (isAny_of_one hone)
  have hne : cs ≠ [] := fun e => by subst e; simp at hlen; omega
  obtain ⟨us, e, hb, hr⟩ := h.own.blk id cs hc hne
  have hsz : (a.eval y).cells.size = n := by rw [← hcl, RepL.length hcr]; simp
  have hul := RepL.length hr
  have hrun := storeVar_run (P := P) (o := off) hs hb hsz (by simp at hul; omega) (oneP_repL hcr hone)
  have hheap := setCells_heap (ρ id) (a.eval y).cells.toList off w us hb (by simp at hul; simp [hsz]; omega)
  have hspl : RepL (enOf c.A0 w ρ st.H st.it st.nx) (spl cs off (cellsP (st.ev y))) (spl us.toList off (a.eval y).cells.toList) := RepL.spl off hr hcr
  have hne' : spl cs off (cellsP (st.ev y)) ≠ [] := fun e => by
    have := spl_length (cs := cs) (new := cellsP (st.ev y)) (off := off) (by omega)
    rw [e] at this; simp at this; omega
  refine upon_skip (w' := w.setCells (ρ id) off (a.eval y).cells.toList) ?_ ⟨_, hK, ρ, (h.set hc hne (vs := (spl us.toList off (a.eval y).cells.toList).toArray) (by simpa using hspl) hne' hheap (setCells_sw _ _ _ _)).put hd (by simp [Rep])⟩
  simp only [execOp, ho, hvx, Instr.storeAt, Instr.sureAddr, Sem.run_bind, Sem.run_pure, Result.andThen_ok, hrun]

theorem alloc_wp {c : Cx} {st : PS} {a : Act} {w : World} {ρ : Nat → Nat} (h : Rr c st a w ρ) {o : Oper} (hd : ∀ x, o.dst = some x → x < c.n) {K : PS → Prop} {Q : Exit → Act → World → Prop}
    {e : TypeId} (ho : o.op = .alloc e) (hp : pAlloc P st e fun r st' => K (st'.put o.dst r)) : o.wp P a w (Nx c K) Q := by
  obtain ⟨z, hz, hK⟩ := hp
  obtain ⟨v, hv, rfl⟩ := zeroT_run hz w
  refine upon_val (v := .pointer (some ⟨w.heap.size, 0, none⟩)) (w' := { w with heap := w.heap.push (.cells v.cells e (0, 0)) }) ?_ ⟨_, hK, h.newPut (e := e) (RepL.vals _) rfl hd (.inl ⟨0, rfl, rfl⟩)⟩
  simp [execOp, ho, Instr.alloc, hv, newVar, newRow]

theorem box_wp {c : Cx} {st : PS} {a : Act} {w : World} {ρ : Nat → Nat} (h : Rr c st a w ρ) {o : Oper} (hd : ∀ x, o.dst = some x → x < c.n) {K : PS → Prop} {Q : Exit → Act → World → Prop}
    {e : TypeId} {x : Operand} (ho : o.op = .box e x) (hp : pBox st (st.ev x) fun r st' => K (st'.put o.dst r)) : o.wp P a w (Nx c K) Q := by
  obtain ⟨hx, hK⟩ := hp
  refine upon_val (v := .pointer (some ⟨w.heap.size, 0, none⟩)) (w' := { w with heap := w.heap.push (.cells (a.eval x).cells e (0, 0)) }) ?_ ⟨_, hK, h.newPut (e := e) (cells_rep (h.ev x) hx) rfl hd (.inl ⟨0, rfl, rfl⟩)⟩
  simp [execOp, ho, Instr.box, newVar, newRow]

theorem make_wp {c : Cx} {st : PS} {a : Act} {w : World} {ρ : Nat → Nat} (h : Rr c st a w ρ) {o : Oper} (hd : ∀ x, o.dst = some x → x < c.n) {K : PS → Prop} {Q : Exit → Act → World → Prop}
    {t : TypeId} {x y : Operand} (ho : o.op = .makeSlice t x y) (hp : pMake P st t (st.ev x) (st.ev y) fun r st' => K (st'.put o.dst r)) : o.wp P a w (Nx c K) Q := by
  obtain ⟨e, he, sz, hs, b, hb, z, hz, hzl, k, n, k', m, hx, hy, h0, hnm, hbm, hm, hK⟩ := hp
  obtain ⟨i, v, hi, rfl, rfl, hv, rfl⟩ := info_all hb hs hz
  have h1 := h.ev x
  have h2 := h.ev y
  rw [hx] at h1; rw [hy] at h2
  simp only [Rep] at h1 h2
  have hrun := run_make (P := P) w t e i v (elemT_some he) hi hv k k' n m h0 hnm hbm (by omega)
  refine upon_val (v := .slice (some ⟨w.heap.size, 0, none⟩) n.toNat m.toNat) (w' := w.alloc (.cells (madeCells v.cells (m.toNat * i.size)) e)) (by
      simp only [execOp, ho, h1, h2]; exact run_val hrun)
    ⟨_, hK, h.newPut (e := e) (vs := madeCells v.cells (m.toNat * i.size)) ?_ rfl hd (.inr ⟨0, _, _, _, by omega, rfl, rfl⟩)⟩
  rw [made_eq (by simpa using hzl), repl_map]
  exact RepL.vals _

theorem buildSlice_wp {c : Cx} {st : PS} {a : Act} {w : World} {ρ : Nat → Nat} (h : Rr c st a w ρ) {o : Oper} (hd : ∀ x, o.dst = some x → x < c.n) {K : PS → Prop} {Q : Exit → Act → World → Prop}
    {t : TypeId} {n : Nat} {parts : Array (Nat × Operand)} (ho : o.op = .buildSlice t n parts) (hp : pBuildSlice P st t n parts.toList fun r st' => K (st'.put o.dst r)) : o.wp P a w (Nx c K) Q := by
  obtain ⟨e, he, sz, hs, hsz, z, hz, hzl, cs, hf, hK⟩ := hp
  obtain ⟨v, hv, rfl⟩ := zeroT_run hz w
  have hmade : (madeCells v.cells (n * sz)).toList = repl n v.cells.toList := made_eq (by simpa using hzl) n
  have h0 : RepL (enOf c.A0 w ρ st.H st.it st.nx) (repl n (v.cells.toList.map .val)) (madeCells v.cells (n * sz)).toList := by
    rw [hmade, repl_map]; exact RepL.vals _
  obtain ⟨us, hfill, hus⟩ := fillP_sound h parts.toList _ _ cs h0 hf
  refine upon_val (v := .slice (some ⟨w.heap.size, 0, none⟩) n n) (w' := { w with heap := w.heap.push (.cells us.toArray e (0, 0)) }) ?_ ⟨_, hK, h.newPut (e := e) (vs := us.toArray) (by simpa using hus) rfl hd (.inr ⟨0, n, n, sz, by omega, rfl, rfl⟩)⟩
  have hp : (parts.map fun (i, x) => (i, a.eval x)).toList = parts.toList.map fun p => (p.1, a.eval p.2) := by simp
  have hbig : ¬ (n * sz > 2 ^ 24) := by omega
  rw [show (madeCells v.cells (n * sz)).toList.toArray = madeCells v.cells (n * sz) from by simp] at hfill
  simp only [execOp, ho]
  apply run_val
  simp only [Instr.buildSlice, Sem.run_bind, run_underlying (elemT_some he), Result.andThen_ok, sizeT_some hs, if_neg hbig, hp]
  by_cases hn : n * sz = 0
  · have e0 : madeCells v.cells (n * sz) = (Array.range (n * sz)).map fun i => (#[] : Array Value)[i % (#[] : Array Value).size]! := by
      rw [hn]; simp [madeCells]
    rw [e0] at hfill
    simp only [hn, if_true, Sem.run_pure, Result.andThen_ok, Sem.run_bind] at hfill ⊢
    rw [hfill]
    simp [newRow]
  · simp only [if_neg hn, Sem.run_bind, hv, Result.andThen_ok, Sem.run_pure]
    unfold madeCells at hfill
    rw [hfill]
    simp [newRow]


theorem srcP_sound {c : Cx} {st : PS} {a : Act} {w : World} {ρ : Nat → Nat} (h : Rr c st a w ρ) {t e : TypeId} {sz m : Nat} {y : Operand} {ys : List PV} (ht : elemT P t = some e)
    (hs : srcP st.H sz (st.ev y) = some (m, ys)) (hone : ys.all oneP = true) : ∃ us, RepL (enOf c.A0 w ρ st.H st.it st.nx) ys us ∧ Src P sz t (a.eval y) m us w := by
  have hk : ∃ e', P.underlying t = some (.slice e') := ⟨e, elemT_some ht⟩
  have hy := h.ev y
  have fin : ∀ b o n cap (cs : List PV), a.eval y = .slice (some ⟨b, o, none⟩) n cap → Row (enOf c.A0 w ρ st.H st.it st.nx) b o cs → cs.length = n * sz → cs.all oneP = true →
      ∃ us, RepL (enOf c.A0 w ρ st.H st.it st.nx) cs us ∧ Src P sz t (a.eval y) n us w := by
    intro b o n cap cs hv hr hl ho
    obtain ⟨us, hus, hc⟩ := Row.vals hr
    refine ⟨us, hus, ?_⟩
    rw [hv]
    refine Src.ofSlice w (elemT_some ht) _ n cap us (by rw [← RepL.length hus]; exact hl) (fun j u hj => ?_) (oneP_repL hus ho)
    rw [addr_add, hc j (List.getElem?_eq_some_iff.1 hj).1]; exact hj
  cases hyy : st.ev y with
  | val x =>
    rw [hyy] at hs hy
    simp only [Rep] at hy
    cases x with
    | slice b n cap =>
      cases b with
      | some b => simp [srcP] at hs
      | none =>
        cases n with
        | succ n => simp [srcP] at hs
        | zero =>
          cases cap with
          | succ n => simp [srcP] at hs
          | zero =>
            simp [srcP] at hs
            obtain ⟨rfl, rfl⟩ := hs
            exact ⟨[], by simp [RepL], by rw [hy]; exact Src.ofNil w (elemT_some ht) 0⟩
    | _ => simp [srcP] at hs
  | sl n cs =>
    rw [hyy] at hs hy
    simp only [srcP] at hs
    split at hs
    · rename_i hl
      simp at hs
      obtain ⟨rfl, rfl⟩ := hs
      simp only [Rep] at hy
      rcases hy with ⟨rfl, rfl, ad, hv⟩ | ⟨b, o, cap, hv, _, hy⟩
      · refine ⟨[], by simp [RepL], ?_⟩
        rw [hv]
        cases ad with
        | none => exact Src.ofNil w (elemT_some ht) 0
        | some ad => exact Src.ofSlice w (elemT_some ht) ad 0 0 [] (by simp) (fun j u hj => by simp at hj) (fun u hu => by simp at hu)
      · refine fin b o n cap cs hv ?_ hl hone
        rcases hy with hy | ⟨_, hy⟩
        · subst hy; simp [Row]
        · exact hy
    · simp at hs
  | ref id off n cap z =>
    rw [hyy] at hs hy
    simp only [srcP] at hs
    cases hc : st.H id with
    | none => simp [hc] at hs
    | some cs =>
      simp only [hc] at hs
      split at hs
      · rename_i hl
        simp at hs
        obtain ⟨rfl, rfl⟩ := hs
        simp only [Rep] at hy
        obtain ⟨_, _, hv | ⟨rfl, rfl, hv⟩⟩ := hy
        · refine fin (ρ id) off n cap _ hv ?_ (by simp; omega) hone
          rcases h.row hc off with hx | hx
          · rw [hx]; simp [Row]
          · exact Row.take _ hx
        · exact ⟨[], by simp [RepL], by rw [hv]; exact Src.ofNil w (elemT_some ht) 0⟩
      · simp at hs
  | _ => rw [hyy] at hs; simp [srcP] at hs


theorem srcC_sound {c : Cx} {st : PS} {a : Act} {w : World} {ρ : Nat → Nat} (h : Rr c st a w ρ) {m : Nat} {y : Operand} {ys : List PV}
    (hs : srcP st.H 1 (st.ev y) = some (m, ys)) (hone : ys.all oneP = true) : ∃ us sp cap, a.eval y = .slice sp m cap ∧ RepL (enOf c.A0 w ρ st.H st.it st.nx) ys us ∧ us.length = m ∧ (∀ u ∈ us, u.oneCell' = true) ∧
      (0 < m → ∃ ad, sp = some ad ∧ ∀ j u, us[j]? = some u → w.cell? (ad.add j) = some u) := by
  have hy := h.ev y
  have fin : ∀ b o n cap (cs : List PV), a.eval y = .slice (some ⟨b, o, none⟩) n cap → Row (enOf c.A0 w ρ st.H st.it st.nx) b o cs → cs.length = n → cs.all oneP = true →
      ∃ us sp cap, a.eval y = .slice sp n cap ∧ RepL (enOf c.A0 w ρ st.H st.it st.nx) cs us ∧ us.length = n ∧ (∀ u ∈ us, u.oneCell' = true) ∧ (0 < n → ∃ ad, sp = some ad ∧ ∀ j u, us[j]? = some u → w.cell? (ad.add j) = some u) := by
    intro b o n cap cs hv hr hl ho
    obtain ⟨us, hus, hc⟩ := Row.vals hr
    refine ⟨us, _, cap, hv, hus, by rw [← RepL.length hus]; exact hl, oneP_repL hus ho, fun _ => ⟨_, rfl, fun j u hj => ?_⟩⟩
    rw [addr_add, hc j (List.getElem?_eq_some_iff.1 hj).1]; exact hj
  have nil : ∀ cap, a.eval y = .slice none 0 cap → ∃ us sp cap, a.eval y = .slice sp 0 cap ∧ RepL (enOf c.A0 w ρ st.H st.it st.nx) [] us ∧ us.length = 0 ∧ (∀ u ∈ us, u.oneCell' = true) ∧ (0 < 0 → ∃ ad, sp = some ad ∧ ∀ j u, us[j]? = some u → w.cell? (ad.add j) = some u) :=
    fun cap hv => ⟨[], _, cap, hv, by simp [RepL], rfl, by simp, fun h => absurd h (Nat.lt_irrefl _)⟩
  cases hyy : st.ev y with
  | val x =>
    rw [hyy] at hs hy
    simp only [Rep] at hy
    cases x with
    | slice b n cap =>
      cases b with
      | some b => simp [srcP] at hs
      | none =>
        cases n with
        | succ n => simp [srcP] at hs
        | zero =>
          cases cap with
          | succ n => simp [srcP] at hs
          | zero =>
            simp [srcP] at hs
            obtain ⟨rfl, rfl⟩ := hs
            exact nil 0 hy
    | _ => simp [srcP] at hs
  | sl n cs =>
    rw [hyy] at hs hy
    simp only [srcP] at hs
    split at hs
    · rename_i hl
      simp at hs
      obtain ⟨rfl, rfl⟩ := hs
      simp only [Rep] at hy
      rcases hy with ⟨rfl, rfl, ad, hv⟩ | ⟨b, o, cap, hv, _, hy⟩
      · exact ⟨[], _, 0, hv, by simp [RepL], rfl, by simp, fun h => absurd h (Nat.lt_irrefl _)⟩
      · refine fin b o n cap cs hv ?_ (by omega) hone
        rcases hy with hy | ⟨_, hy⟩
        · subst hy; simp [Row]
        · exact hy
    · simp at hs
  | ref id off n cap z =>
    rw [hyy] at hs hy
    simp only [srcP] at hs
    cases hc : st.H id with
    | none => simp [hc] at hs
    | some cs =>
      simp only [hc] at hs
      split at hs
      · rename_i hl
        simp at hs
        obtain ⟨rfl, rfl⟩ := hs
        simp only [Rep] at hy
        obtain ⟨_, _, hv | ⟨rfl, rfl, hv⟩⟩ := hy
        · refine fin (ρ id) off n cap _ hv ?_ (by simp; omega) hone
          rcases h.row hc off with hx | hx
          · rw [hx]; simp [Row]
          · exact Row.take _ hx
        · exact nil 0 hv
      · simp at hs
  | _ => rw [hyy] at hs; simp [srcP] at hs

theorem setRow_set (w : World) (g : Nat) (old cs : Array Value) (t : TypeId) (fr : Nat × Nat) (hg : w.heap[g]? = some (.cells old t fr)) : (w.setRow g cs).heap = w.heap.setIfInBounds g (.cells cs t fr) := by
  apply Array.ext_getElem?
  intro i
  unfold World.setRow
  simp only []
  rw [Array.getElem?_modify, Array.getElem?_setIfInBounds]
  by_cases hi : g = i
  · subst hi
    have hlt : g < w.heap.size := (Array.getElem?_eq_some_iff.1 hg).1
    have he := (Array.getElem?_eq_some_iff.1 hg).2
    simp [hlt, he]
  · simp [hi]

theorem copy_wp {c : Cx} {st : PS} {a : Act} {w : World} {ρ : Nat → Nat} (h : Rr c st a w ρ) {o : Oper} (hd : ∀ x, o.dst = some x → x < c.n) {K : PS → Prop} {Q : Exit → Act → World → Prop}
    {t t' : TypeId} {x y : Operand} (ho : o.op = .call ⟨.builtin .copy, #[x, y], #[t, t']⟩) (hp : pCopy P st t (st.ev x) (st.ev y) fun r st' => K (st'.put o.dst r)) : o.wp P a w (Nx c K) Q := by
  obtain ⟨e, he, hs, m, ys, hsrc, hone, hx⟩ := hp
  have hs' : (P.info? e).map (·.size) = some 1 := by simpa [sizeT] using hs
  obtain ⟨us, sp, scap, hy, hus, hul, hu1, hcell⟩ := srcC_sound h hsrc hone
  have hev := h.ev x
  split at hx
  · rename_i id off n cap z hxx
    rw [hxx] at hev
    obtain ⟨cs, hc, hlen, hK⟩ := hx
    have hev' := hev
    simp only [Rep] at hev'
    obtain ⟨hid, hle, hval⟩ := hev'
    by_cases hk : Nat.min m n = 0
    · have hst : ({ st with H := upd st.H id (some (spl cs off (ys.take (Nat.min m n)))) } : PS) = st := by
        have : upd st.H id (some (spl cs off (ys.take (Nat.min m n)))) = st.H := by
          funext j
          by_cases hj : j = id
          · subst hj; rw [upd_self, hc, hk]; simp [spl]
          · rw [upd_ne _ _ hj]
        rw [this]
      rw [hst, hk] at hK
      obtain ⟨bx, hbx⟩ : ∃ bx, a.eval x = .slice bx n cap := by
        rcases hval with hv | ⟨rfl, rfl, hv⟩
        · exact ⟨_, hv⟩
        · exact ⟨_, hv⟩
      have hrun := run_copy_none (P := P) w t t' o.type e bx sp n cap m scap (elemT_some he) hs' hk
      refine upon_val (w' := w) (v := goInt 0) ?_ ⟨_, hK, ρ, h.put hd (by simp [Rep, goInt])⟩
      simp only [execOp, ho, resolve, Sem.run_bind, Sem.run_pure, Result.andThen_ok, invoke, builtin, List.map_toArray, List.map_cons, List.map_nil, hbx, hy]
      rw [hrun]; rfl
    · have hm : 0 < m := Nat.pos_of_ne_zero fun e => hk (by rw [e]; exact Nat.zero_min n)
      have hn : 0 < n := Nat.pos_of_ne_zero fun e => hk (by rw [e]; exact Nat.min_zero m)
      rcases hval with hval | ⟨rfl, rfl, hval⟩
      · obtain ⟨ad, rfl, hcell2⟩ := hcell hm
        have hne : cs ≠ [] := by rintro rfl; simp at hlen; omega
        obtain ⟨vs, e2, hbk, hr⟩ := h.own.blk id cs hc hne
        have hvl := RepL.length hr
        have hmn : Nat.min m n ≤ n := Nat.min_le_right m n
        have hmm : Nat.min m n ≤ m := Nat.min_le_left m n
        have hk1 : (us.take (Nat.min m n)).length = Nat.min m n := List.length_take_of_le (by omega)
        have hk2 : (ys.take (Nat.min m n)).length = Nat.min m n := List.length_take_of_le (by rw [RepL.length hus]; omega)
        have hvs : vs.toList.length = vs.size := by simp
        have hrun := run_copy_row (P := P) w t t' o.type e (ρ id) off n cap ad m scap vs e2 (us.take (Nat.min m n)) (elemT_some he) hs' hbk hk1 (fun j v hj => hcell2 j v (by
            rw [List.getElem?_take] at hj
            split at hj
            · exact hj
            · simp at hj)) (by rw [hk1]; omega) (fun v hv => hu1 v (List.mem_of_mem_take hv))
        have hspl : RepL (enOf c.A0 w ρ st.H st.it st.nx) (spl cs off (ys.take (Nat.min m n))) (spl vs.toList off (us.take (Nat.min m n))) := RepL.spl _ hr (RepL.take _ hus)
        have hne' : spl cs off (ys.take (Nat.min m n)) ≠ [] := fun e => by
          have h1 := spl_length (cs := cs) (new := ys.take (Nat.min m n)) (off := off) (by rw [hk2]; omega)
          rw [e] at h1
          exact hne (List.eq_nil_of_length_eq_zero h1.symm)
        have e3 : vs.toList.take off ++ us.take (Nat.min m n) ++ vs.toList.drop (off + (us.take (Nat.min m n)).length) = spl vs.toList off (us.take (Nat.min m n)) := by
          unfold spl; rw [List.append_assoc]
        rw [e3, hk1] at hrun
        refine upon_val (w' := w.setRow (ρ id) (spl vs.toList off (us.take (Nat.min m n))).toArray) (v := goInt (Nat.min m n)) ?_
          ⟨_, hK, ρ, (h.set hc hne (vs := (spl vs.toList off (us.take (Nat.min m n))).toArray) (by simpa using hspl) hne' (setRow_set w (ρ id) vs _ e2 (0, 0) hbk) ⟨rfl, rfl, rfl⟩).put hd ?_⟩
        · simp only [execOp, ho, resolve, Sem.run_bind, Sem.run_pure, Result.andThen_ok, invoke, builtin, List.map_toArray, List.map_cons, List.map_nil, hval, hy]
          rw [hrun]; rfl
        · simp [Rep, goInt]
      · omega
  · exact hx.elim

theorem grow_wp {c : Cx} {st : PS} {a : Act} {w : World} {ρ : Nat → Nat} (h : Rr c st a w ρ) {o : Oper} (hd : ∀ x, o.dst = some x → x < c.n) {K : PS → Prop} {Q : Exit → Act → World → Prop}
    {t t' ty e : TypeId} {x y : Operand} {i : TypeInfo} {z : Value} (ho : o.op = .call ⟨.builtin .append, #[x, y], #[t, t']⟩) (he : elemT P t = some e) (hi : P.info? e = some i) (hz : i.zero = some z)
    (hzl : z.cells.size = i.size) {b : Option Addr} {n cap m : Nat} (hv : a.eval x = .slice b n cap) {olds : List Value} {os : List PV} (hos : RepL (enOf c.A0 w ρ st.H st.it st.nx) os olds)
    (hold : ∀ w' : World, w'.heap = w.heap → (Builtin.firstCells i.size n (.slice b n cap)).run P w' = .ok olds.toArray w') {us : List Value} {ys : List PV} (hus : RepL (enOf c.A0 w ρ st.H st.it st.nx) ys us)
    (hsrc : Src P i.size t' (a.eval y) m us w) (hg : cap < n + m) (hb : (n + m) * i.bytes ≤ 140737488355328) (hm : n + m ≤ 140737488355328)
    (hK : pGrow st i.size (n + m) (os ++ ys) fun r st' => K (st'.put o.dst r)) : o.wp P a w (Nx c K) Q := by
  have hrun := run_append_grow_src (P := P) w t t' o.type e i z (elemT_some he) hi hz b n cap olds (hold w.drew rfl) (a.eval y) m us hsrc hg (by omega) (growslice_fits hg hb)
  have hcap : n + m ≤ grownCap w (n + m) cap e ∧ grownCap w (n + m) cap e < 9223372036854775808 := by
    unfold grownCap Question.cut
    simp only []
    have : 0 < 2 ^ 63 - (n + m) := by omega
    have := Nat.mod_lt (w.tape w.drawn (.appendCap (n + m) cap e)) this
    omega
  refine upon_val (w' := w.drew.alloc (.cells ((olds ++ us).toArray ++ Builtin.zeroCells z.cells (grownCap w (n + m) cap e - (n + m))) e)) (v := .slice (some ⟨w.heap.size, 0, none⟩) (n + m) (grownCap w (n + m) cap e)) ?_ ?_
  · simp only [execOp, ho, resolve, Sem.run_bind, Sem.run_pure, Result.andThen_ok, invoke, builtin, List.map_toArray, List.map_cons, List.map_nil, hv]
    rw [hrun]; rfl
  · have hlen : (Builtin.zeroCells z.cells (grownCap w (n + m) cap e - (n + m))).toList.length = (grownCap w (n + m) cap e - (n + m)) * i.size := by
      simp [Builtin.zeroCells, hzl]
    have hK' := hK _ _ hcap.1 hcap.2 hlen
    refine ⟨_, hK', h.newPut (e := e) (vs := (olds ++ us).toArray ++ Builtin.zeroCells z.cells (grownCap w (n + m) cap e - (n + m))) ?_ rfl hd (.inr ⟨0, _, _, _, hcap.1, rfl, rfl⟩)⟩
    simp only [Array.toList_append]
    exact RepL.append (RepL.append hos hus) (RepL.vals _)

theorem append_wp {c : Cx} {st : PS} {a : Act} {w : World} {ρ : Nat → Nat} (h : Rr c st a w ρ) {o : Oper} (hd : ∀ x, o.dst = some x → x < c.n) {K : PS → Prop} {Q : Exit → Act → World → Prop}
    {t t' : TypeId} {x y : Operand} (ho : o.op = .call ⟨.builtin .append, #[x, y], #[t, t']⟩) (hp : pAppend P st t t' (st.ev x) (st.ev y) fun r st' => K (st'.put o.dst r)) : o.wp P a w (Nx c K) Q := by
  obtain ⟨e, he, he', sz, hs, b, hb, z, hz, hzl, m, ys, hsrc, hone, hx⟩ := hp
  obtain ⟨e', he'⟩ := Option.isSome_iff_exists.1 he'
  obtain ⟨i, v, hi, rfl, rfl, hv, rfl⟩ := info_all hb hs hz
  obtain ⟨us, hus, hsr⟩ := srcP_sound h he' hsrc hone
  have hev := h.ev x
  have hmlen : us.length = m * i.size := hsr.newsLen
  have hupd : ∀ {id : Nat} (l : List PV), st.H id = some l → ({ st with H := upd st.H id (some l) } : PS) = st := by
    intro id l hl
    have : upd st.H id (some l) = st.H := by
      funext j
      by_cases hj : j = id
      · subst hj; rw [upd_self, hl]
      · rw [upd_ne _ _ hj]
    rw [this]
  split at hx
  · rename_i id off n cap z' hxx
    rw [hxx] at hev
    obtain ⟨cs, hc, hlen, hbb, hmm, hroom, hgrow⟩ := hx
    have hev' := hev
    simp only [Rep] at hev'
    obtain ⟨hid, hle, hval⟩ := hev'
    rcases Nat.lt_or_ge cap (n + m) with hg | hg
    · have hK := hgrow hg
      rcases hval with hval | ⟨rfl, rfl, hval⟩
      · have hrow : Row (enOf c.A0 w ρ st.H st.it st.nx) (ρ id) off ((cs.drop off).take (n * i.size)) := by
          rcases h.row hc off with hx | hx
          · rw [hx]; simp [Row]
          · exact Row.take _ hx
        obtain ⟨olds, hold, hcell⟩ := Row.vals hrow
        refine grow_wp (ty := o.type) h hd ho he hi hv (by simpa using hzl) hval hold (fun w' hw' => ?_) hus hsr hg hbb hmm hK
        have hol : olds.length = n * i.size := by rw [← RepL.length hold]; simp; omega
        have := run_firstCells_some (P := P) w' i.size n ⟨ρ id, off, none⟩ n cap olds hol (fun j u hj => by
          rw [addr_add, cell_congr (w := w) (by rw [hw'])]; exact (hcell j (List.getElem?_eq_some_iff.1 hj).1).trans hj)
        exact this
      · refine grow_wp (ty := o.type) h hd ho he hi hv (by simpa using hzl) hval (olds := []) (os := (cs.drop off).take (0 * i.size)) (by simp [RepL]) (fun w' hw' => run_firstCells_none (P := P) w' i.size 0 0 0) hus hsr hg hbb hmm hK
    · obtain ⟨hlen2, hK⟩ := hroom hg
      rcases hval with hval | ⟨rfl, rfl, hval⟩
      · by_cases hne : cs = []
        · 
          subst hne
          simp at hlen2
          have hm0 : m * i.size = 0 := by
            have := hlen2.2
            rw [Nat.add_mul] at hlen2; omega
          have hus0 : us = [] := List.eq_nil_of_length_eq_zero (by omega)
          have hys0 : ys = [] := List.eq_nil_of_length_eq_zero (by rw [RepL.length hus, hus0]; rfl)
          subst hus0; subst hys0
          have hrun := run_append_room_src (P := P) w t t' o.type e i (elemT_some he) hi (ρ id) off n cap (a.eval y) m [] hsr hg (by simp) (by simp)
          rw [hupd _ (by simp [hc, spl])] at hK
          refine upon_val (w' := w) (v := .slice (some ⟨ρ id, off, none⟩) (n + m) cap) ?_ ⟨_, hK, ρ, h.put hd (by simp only [Rep]; exact ⟨hid, hg, .inl trivial⟩)⟩
          simp only [execOp, ho, resolve, Sem.run_bind, Sem.run_pure, Result.andThen_ok, invoke, builtin, List.map_toArray, List.map_cons, List.map_nil, hval]
          rw [hrun]; rfl
        · obtain ⟨vs, e2, hbk, hr⟩ := h.own.blk id cs hc hne
          have hvl := RepL.length hr
          have hvl' : vs.size = cs.length := by simpa using hvl.symm
          have hbound : off + n * i.size + us.length ≤ vs.size := by rw [hmlen, hvl']; rw [Nat.add_mul] at hlen2; omega
          have hrun := run_append_room_src (P := P) w t t' o.type e i (elemT_some he) hi (ρ id) off n cap (a.eval y) m us hsr hg
            (fun j hj => by rw [cell_of hbk]; simp; omega) (fun j hj => by simp [World.frozen?, hbk])
          have hheap := setCells_heap (ρ id) us (off + n * i.size) w vs hbk hbound
          have hspl : RepL (enOf c.A0 w ρ st.H st.it st.nx) (spl cs (off + n * i.size) ys) (spl vs.toList (off + n * i.size) us) := RepL.spl _ hr hus
          have hne' : spl cs (off + n * i.size) ys ≠ [] := fun e => by
            have h1 := spl_length (cs := cs) (new := ys) (off := off + n * i.size) (by rw [RepL.length hus]; omega)
            rw [e] at h1
            exact hne (List.eq_nil_of_length_eq_zero h1.symm)
          refine upon_val (w' := w.setCells (ρ id) (off + n * i.size) us) (v := .slice (some ⟨ρ id, off, none⟩) (n + m) cap) ?_
            ⟨_, hK, ρ, (h.set hc hne (vs := (spl vs.toList (off + n * i.size) us).toArray) (by simpa using hspl) hne' hheap (setCells_sw _ _ _ _)).put hd ?_⟩
          · simp only [execOp, ho, resolve, Sem.run_bind, Sem.run_pure, Result.andThen_ok, invoke, builtin, List.map_toArray, List.map_cons, List.map_nil, hval]
            rw [hrun]; rfl
          · simp only [Rep]; exact ⟨hid, hg, .inl trivial⟩
      · 
        obtain rfl : m = 0 := by omega
        have hus0 : us = [] := List.eq_nil_of_length_eq_zero (by omega)
        have hys0 : ys = [] := List.eq_nil_of_length_eq_zero (by rw [RepL.length hus, hus0]; rfl)
        subst hus0; subst hys0
        rw [hupd _ (by simp [hc, spl])] at hK
        have hrun := run_append_nothing (P := P) w t t' o.type e i (elemT_some he) hi none 0 0 (Nat.le_refl _) (a.eval y) hsr
        refine upon_val (w' := w) (v := .slice none 0 0) ?_ ⟨_, hK, ρ, h.put hd (by simp only [Rep]; exact ⟨hid, Nat.le_refl _, .inr (by simp)⟩)⟩
        simp only [execOp, ho, resolve, Sem.run_bind, Sem.run_pure, Result.andThen_ok, invoke, builtin, List.map_toArray, List.map_cons, List.map_nil, hval]
        rw [hrun]; rfl
  · rename_i hxx
    rw [hxx] at hev
    simp only [Rep] at hev
    obtain ⟨hbb, hmm, hz0, hg⟩ := hx
    rcases Nat.eq_zero_or_pos m with rfl | hm
    · have hrun := run_append_nothing (P := P) w t t' o.type e i (elemT_some he) hi none 0 0 (Nat.le_refl _) (a.eval y) (by
        have : us = [] := List.eq_nil_of_length_eq_zero (by omega)
        subst this; exact hsr)
      refine upon_val (w' := w) (v := .slice none 0 0) ?_ ⟨_, hz0 rfl, ρ, h.put hd (by simp [Rep])⟩
      simp only [execOp, ho, resolve, Sem.run_bind, Sem.run_pure, Result.andThen_ok, invoke, builtin, List.map_toArray, List.map_cons, List.map_nil, hev]
      rw [hrun]; rfl
    · have hK := hg hm
      refine grow_wp (ty := o.type) (n := 0) (cap := 0) (m := m) h hd ho he hi hv (by simpa using hzl) hev (olds := []) (os := []) (by simp [RepL]) (fun w' hw' => run_firstCells_none (P := P) w' i.size 0 0 0) hus hsr (by omega) (by simpa using hbb) (by omega) ?_
      rw [Nat.zero_add]; exact hK
  · exact hx.elim

theorem range_wp {c : Cx} {st : PS} {a : Act} {w : World} {ρ : Nat → Nat} (h : Rr c st a w ρ) {o : Oper} (hd : ∀ x, o.dst = some x → x < c.n) {K : PS → Prop} {Q : Exit → Act → World → Prop}
    {t : TypeId} {x : Operand} (ho : o.op = .range t x) (hp : pRange P st t (st.ev x) fun r st' => K (st'.put o.dst r)) : o.wp P a w (Nx c K) Q := by
  obtain ⟨ht, s, hx, hK⟩ := hp
  have hev := h.ev x
  rw [hx] at hev
  simp only [Rep] at hev
  have h' := h.newIter (s := s) (w' := { w with heap := w.heap.push (.stringIter s 0) }) rfl
  refine upon_val (v := .pointer (some ⟨w.heap.size, 0, none⟩)) (w' := { w with heap := w.heap.push (.stringIter s 0) }) ?_ ⟨_, hK, _, h'.put hd ?_⟩
  · simp [execOp, ho, hev, Instr.range, run_underlying (strT_true ht)]
  · simp only [Rep]; exact ⟨Nat.lt_succ_self _, by rw [upd_self]⟩

theorem next_wp {c : Cx} {st : PS} {a : Act} {w : World} {ρ : Nat → Nat} (h : Rr c st a w ρ) {o : Oper} (hd : ∀ x, o.dst = some x → x < c.n) {K : PS → Prop} {Q : Exit → Act → World → Prop}
    {x : Operand} (ho : o.op = .next x true) (hp : pNext st (st.ev x) fun r st' => K (st'.put o.dst r)) : o.wp P a w (Nx c K) Q := by
  obtain ⟨id, hx, s, pos, hi, h1, h2⟩ := hp
  have hev := h.ev x
  rw [hx] at hev
  simp only [Rep] at hev
  obtain ⟨hid, hv⟩ := hev
  have hb := h.own.itb id s pos hi
  have hget : (getObj (ρ id)).run P w = .ok (.stringIter s pos) w := by simp [getObj, Sem.run, hb]
  rcases Nat.lt_or_ge pos s.size with hlt | hge
  · have h' := h.setIter hi (p' := pos + (Utf8.decode s pos).2) (w' := { w with heap := w.heap.setIfInBounds (ρ id) (.stringIter s (pos + (Utf8.decode s pos).2)) }) rfl
    have hset : (setObj (ρ id) (.stringIter s (pos + (Utf8.decode s pos).2))).run P w = .ok () { w with heap := w.heap.setIfInBounds (ρ id) (.stringIter s (pos + (Utf8.decode s pos).2)) } := by
      simp [setObj, Sem.run, hb]
    refine upon_val (v := .tuple #[.bool true, goInt pos, .int .i32 (Utf8.decode s pos).1]) ?_ ⟨_, h1 hlt, _, h'.put hd ⟨[.bool true, goInt pos, .int .i32 (Utf8.decode s pos).1], rfl, by simp [RepL, Rep, goInt]⟩⟩
    simp only [execOp, ho, hv]
    apply run_val
    simp only [Instr.next, Sem.run_bind, hget, Result.andThen_ok, if_pos hlt, hset]
    rfl
  · refine upon_val (v := .tuple #[.bool false]) (w' := w) ?_ ⟨_, h2 hge, _, h.put hd ⟨[.bool false], rfl, by simp [RepL, Rep]⟩⟩
    simp only [execOp, ho, hv]
    apply run_val
    simp only [Instr.next, Sem.run_bind, hget, Result.andThen_ok, if_neg (Nat.not_lt.2 hge)]
    rfl


theorem callFunc_run {f : FuncId} {fn : Func} (hf : P.funcs[f]? = some fn) (hb : fn.body.isSome = true) (hn : (fn.name == "runtime.NumGoroutine") = false) (args : Array Value) (w : World) :
    (callFunc f args).run P w = .ok (.enter f args) w := by
  have : fn.body.isNone = false := by cases h : fn.body <;> simp_all
  simp only [callFunc, Sem.run_bind, run_program, Result.andThen_ok, hf, hn, this, Bool.false_eq_true, if_false, Sem.run_pure]

theorem call_wp {c : Cx} {st : PS} {a : Act} {w : World} {ρ : Nat → Nat} (h : Rr c st a w ρ) {o : Oper} (hd : ∀ x, o.dst = some x → x < c.n) {K : PS → Prop} {Q : Exit → Act → World → Prop}
    {cl : Call} {x : Operand} (ho : o.op = .call cl) (hc : cl.callee = .value x) {g : FuncId} {caps : List PV} (hg : st.ev x = .fn g caps) 
    (hp : pCall P g (cl.args.toList.map st.ev ++ caps) st fun r st' => K (st'.put o.dst r)) : o.wp P a w (Nx c K) Q := by
  obtain ⟨args1, st1, hga, hp⟩ := hp
  have hok : okFn P g = true := by rcases hp with hp | hp; exact hp.2.1; exact hp.1
  obtain ⟨fn, hf, hb, hn⟩ : ∃ fn, P.funcs[g]? = some fn ∧ fn.body.isSome = true ∧ (fn.name == "runtime.NumGoroutine") = false := by
    unfold okFn at hok
    split at hok
    · rename_i fn hf
      simp only [Bool.and_eq_true, Bool.not_eq_true'] at hok
      exact ⟨fn, hf, hok.1, hok.2⟩
    · simp at hok
  have hx := h.ev x
  rw [hg] at hx
  simp only [Rep] at hx
  obtain ⟨us, hv, hus⟩ := hx
  have hargs : ∀ l : List Operand, RepL (enOf c.A0 w ρ st.H st.it st.nx) (l.map st.ev) (l.map a.eval) := by
    intro l
    induction l with
    | nil => simp [RepL]
    | cons x l ih => simp only [List.map_cons, RepL]; exact ⟨h.ev x, ih⟩
  have hall := RepL.append (hargs cl.args.toList) hus
  have hcalls : Calls P g (cl.args.toList.map a.eval ++ us).toArray w (CallRes c a (ghK fun r st' => K (st'.put o.dst r))) := by
    obtain ⟨ρ1, h1, hall1⟩ := hga c a w _ ⟨ρ, h, hall⟩
    rcases hp with hp | hp
    · exact callP_sound h1 hall1 hp
    · exact callM_sound h1 hall1 hp
  have hrun : (execOp a.eval o).run P w = .ok (.enter g (cl.args.toList.map a.eval ++ us).toArray) w := by
    obtain ⟨callee, args, tys⟩ := cl
    simp only [] at hc; subst hc
    have e : args.map a.eval ++ us.toArray = (args.toList.map a.eval ++ us).toArray := by apply Array.ext'; simp
    simp only [execOp, ho, resolve, hv, Deferred.ofValue, Sem.run_bind, Sem.run_pure, Result.andThen_ok, invoke, Array.empty_append]
    rw [e]
    exact callFunc_run hf hb hn _ w
  unfold Oper.wp
  rw [hrun, Oper.upon_enter]
  refine hcalls.mono ?_
  rintro e w' ⟨v, r, st', ρ', rfl, ⟨r1, st1, hg, hK⟩, hR, hrep⟩
  obtain ⟨ρ1, hR1, hrep1⟩ := hg c a w' v ⟨ρ', hR, hrep⟩
  exact ⟨_, hK, ρ1, hR1.put hd hrep1⟩

theorem op_sound {c : Cx} {st : PS} {a : Act} {w : World} (h : R c st a w) {o : Oper} (hd : ∀ x, o.dst = some x → x < c.n) {K : PS → Prop} {Q : Exit → Act → World → Prop}
    (hp : pOp P o K st) : o.wp P a w (Nx c K) Q := by
  obtain ⟨ρ, h⟩ := h
  unfold pOp at hp
  split at hp
  · rename_i ho; exact store_wp h hd ho hp
  · rename_i ho; exact alloc_wp h hd ho hp
  · rename_i ho; exact box_wp h hd ho hp
  · rename_i ho; exact make_wp h hd ho hp
  · rename_i ho; exact buildSlice_wp h hd ho hp
  · rename_i ho; exact range_wp h hd ho hp
  · rename_i ho; exact next_wp h hd ho hp
  · rename_i cl ho
    split at hp
    · rename_i x y t t' hc ha ht
      obtain ⟨callee, args, tys⟩ := cl
      simp only [] at hc ha ht
      subst hc
      obtain rfl : args = #[x, y] := by apply Array.ext'; simpa using ha
      obtain rfl : tys = #[t, t'] := by apply Array.ext'; simpa using ht
      exact append_wp h hd ho hp
    · rename_i x y t t' hc ha ht
      obtain ⟨callee, args, tys⟩ := cl
      simp only [] at hc ha ht
      subst hc
      obtain rfl : args = #[x, y] := by apply Array.ext'; simpa using ha
      obtain rfl : tys = #[t, t'] := by apply Array.ext'; simpa using ht
      exact copy_wp h hd ho hp
    · rename_i f hc
      obtain ⟨g, caps, hg, hp⟩ := hp
      exact call_wp h hd ho hc hg hp
    · exact quiet_wp h hd (by rw [ho]; exact hp)
  · exact quiet_wp h hd hp

theorem R.put {c : Cx} {st : PS} {a : Act} {w : World} (h : R c st a w) {d : Option Nat} (hd : ∀ x, d = some x → x < c.n) (v : Value) : R c (st.put d (.val v)) (a.put d v) w :=
  h.imp fun _ h => h.put hd (by simp [Rep])

theorem guard_sound {c : Cx} {st : PS} {a : Act} {w : World} (h : R c st a w) {ops : Array Oper} {o : Oper} {run skip : Prop} (hg : pGuard ops st o run skip) :
    (Region.wanted o (yielded ops a.tmps) = true ∧ run) ∨ (Region.wanted o (yielded ops a.tmps) = false ∧ skip) := by
  obtain ⟨ρ, h⟩ := h
  unfold pGuard at hg
  unfold Region.wanted
  split at hg
  · rename_i e; rw [e]; exact .inl ⟨rfl, hg⟩
  · rename_i j want e
    rw [e]
    split at hg
    · exact hg.elim
    · rename_i d hd
      have hs := h.slots d
      have hget : ∀ v, v ≠ undef → a.tmps.getD d undef = v → a.tmps[d]? = some v := by
        intro v hv hh
        rw [Array.getD_eq_getD_getElem?] at hh
        cases hx : a.tmps[d]? with
        | none => rw [hx] at hh; exact absurd hh.symm hv
        | some x => rw [hx] at hh; simp at hh; rw [hh]
      split at hg
      · rename_i b hb
        rw [hb] at hs
        simp only [Rep] at hs
        have h1 := hget (.bool b) (by simp [undef]) hs
        have hy : yielded ops a.tmps j = some b := by simp [yielded, hd, h1]
        simp only [hy]
        by_cases hbw : b = want
        · exact .inl ⟨by simp [hbw], hg.1 hbw⟩
        · exact .inr ⟨by simp [hbw], hg.2 hbw⟩
      · rename_i vs hb
        rw [hb] at hs
        simp only [Rep] at hs
        have hy : yielded ops a.tmps j = none := by
          unfold yielded
          rw [hd]
          simp only [Option.bind_some]
          rw [Array.getD_eq_getD_getElem?] at hs
          cases hx : a.tmps[d]? with
          | none => rfl
          | some x => rw [hx] at hs; simp at hs; subst hs; rfl
        exact .inr ⟨by simp [hy], hg⟩
      · exact hg.elim

theorem pOps_sound {c : Cx} {ops : Array Oper} {K : PS → Prop} {Q : Exit → Act → World → Prop} (hQ : ∀ st a w, K st → R c st a w → Q .normal a w) :
    ∀ (l : List Nat), (∀ i ∈ l, ∀ o, ops[i]? = some o → ∀ x, o.dst = some x → x < c.n) → ∀ (st : PS) (a : Act) (w : World), R c st a w →
      pOps P ops K (l.filterMap (ops[·]?)) st → wpOps P ops Q l a w
  | [], _, st, a, w, h, hp => hQ _ _ _ hp h
  | i :: l, hd, st, a, w, h, hp => by
    have ih := pOps_sound hQ l (fun j hj => hd j (List.mem_cons_of_mem _ hj))
    simp only [wpOps]
    cases ho : ops[i]? with
    | none =>
      rw [List.filterMap_cons_none ho] at hp
      exact ih st a w h hp
    | some o =>
      rw [List.filterMap_cons_some ho] at hp
      simp only [pOps] at hp
      have hdo := hd i (List.mem_cons_self ..) o ho
      simp only []
      rcases guard_sound h hp with ⟨hw, hrun⟩ | ⟨hw, hskip⟩
      · rw [if_pos hw]
        refine .inl (Oper.wp_mono ?_ (op_sound h hdo hrun))
        rintro a w ⟨st', hK, hR⟩
        exact ih st' a w hR hK
      · rw [if_neg (by simp [hw])]
        exact ih _ _ _ (h.put hdo undef) hskip

end Go.Proofs.Ytfjdfnlkobeehaa
end

section
set_option linter.unusedVariables false
set_option linter.unusedSimpArgs false
namespace Go.Proofs.Ytfjdfnlkobeehaa

variable {P : Program}


def Cx.plus (c : Cx) (w : World) (b : Nat) : Cx := { c with F := fun x => c.F x ∨ x = b, A0 := fun x => c.A0 x ∨ x = b, w0 := w }

def Cx.less (c : Cx) (b : Nat) : Cx := { c with F := fun x => c.F x ∧ x ≠ b, A0 := fun x => c.A0 x ∧ x ≠ b }

theorem R.early {c : Cx} {st : PS} {a : Act} {w w1 : World} (h : R c st a w) {vs : Array Value} {te : TypeId} (hw : w1.heap = w.heap.push (.cells vs te (0, 0))) : R (c.plus w1 w.heap.size) st a w1 := by
  obtain ⟨ρ, h⟩ := h
  have hold : ∀ b, b < w.heap.size → w1.heap[b]? = w.heap[b]? := fun b hb => by
    rw [hw, Array.getElem?_push]; simp [Nat.ne_of_lt hb]
  have hle : En.le (enOf c.A0 w ρ st.H st.it st.nx) (enOf (c.plus w1 w.heap.size).A0 w1 ρ st.H st.it st.nx) := by
    refine ⟨fun b o v _ hv => (cell_congr (hold b (lt_of_cell hv))).trans hv, fun b o v hA hv hA' => ?_, Nat.le_refl _, fun _ _ => rfl⟩
    rcases hA' with (h0 | h0) | h0
    · exact hA (.inl h0)
    · have := lt_of_cell hv; simp at this; omega
    · exact hA (.inr h0)
  have hg := h.grow
  have hsz : w1.heap.size = w.heap.size + 1 := by rw [hw]; simp
  refine ⟨ρ, ⟨h.own.bound, h.own.excl, h.own.inj, fun i cs hc hne => ?_, fun i s p hi => ?_, fun i hi => ?_⟩, fun t => Rep.mono hle _ _ (h.slots t), h.size, h.defers, fun b _ => rfl, Nat.le_refl _, h.ids, h.ρk, fun b hb => ?_, fun b hb => ?_, Sw.refl _⟩
  · obtain ⟨us, e, hb, hr⟩ := h.own.blk i cs hc hne
    exact ⟨us, e, (hold _ (lt_of_heap hb)).trans hb, RepL.mono hle _ _ hr⟩
  · have := h.own.itb i s p hi
    exact (hold _ (lt_of_heap this)).trans this
  · have hl := h.own.lt hi
    obtain ⟨h1, h2⟩ := h.own.out i hi
    exact ⟨fun hF => hF.elim h1 (fun e => by omega), fun hA => hA.elim h2 (fun e => by omega)⟩
  · show b < w1.heap.size
    rcases hb with hb | hb
    · have := h.fF b hb; omega
    · omega
  · show b < w1.heap.size
    rcases hb with hb | hb
    · have := h.fA b hb; omega
    · omega

theorem R.adopt {c : Cx} {st : PS} {a : Act} {w : World} {b : Nat} {vs : Array Value} {te : TypeId} {ρ : Nat → Nat} {cs : List PV} (h : Rr c st a w ρ) (hcs : RepL (enOf c.A0 w ρ st.H st.it st.nx) cs vs.toList) (hF : c.F b) (hA : c.A0 b) (hb : c.w0.heap[b]? = some (.cells vs te (0, 0)))
    {d : Option Nat} (hd : ∀ x, d = some x → x < c.n) {p : PV} {v : Value} (hp : ∀ E : En, st.nx < E.nx → E.ρ st.nx = b → Rep E p v) : R (c.less b) ((st.new cs).put d p) (a.put d v) w := by
  have hwb : w.heap[b]? = some (.cells vs te (0, 0)) := by rw [h.frame b hF]; exact hb
  have hnone : st.H st.nx = none := by
    cases hc : st.H st.nx with
    | none => rfl
    | some x => exact absurd (h.own.bound st.nx (.inl (by simp [hc]))) (Nat.lt_irrefl _)
  have hit : st.it st.nx = none := by
    cases hc : st.it st.nx with
    | none => rfl
    | some x => exact absurd (h.own.bound st.nx (.inr (by simp [hc]))) (Nat.lt_irrefl _)
  have hlive : ∀ i, Live (upd st.H st.nx (some cs)) st.it i → i = st.nx ∨ (i ≠ st.nx ∧ i < st.nx ∧ Live st.H st.it i) := by
    intro i hl
    by_cases hi : i = st.nx
    · exact .inl hi
    · have hl' : Live st.H st.it i := by
        rcases hl with ⟨ds, hd, hne⟩ | hx
        · rw [upd_ne _ _ hi] at hd; exact .inl ⟨ds, hd, hne⟩
        · exact .inr hx
      exact .inr ⟨hi, Live.lt h.own hl', hl'⟩
  have hle : En.le (enOf c.A0 w ρ st.H st.it st.nx) (enOf (c.less b).A0 w (upd ρ st.nx b) (upd st.H st.nx (some cs)) st.it (st.nx + 1)) := by
    refine ⟨fun _ _ _ _ hv => hv, fun x o v hA' hv hx => ?_, Nat.le_succ _, fun i hi => upd_ne _ _ (Nat.ne_of_lt hi)⟩
    rcases hx with h0 | ⟨i, hl, hbx⟩
    · exact hA' (.inl h0.1)
    · rcases hlive i hl with hi | ⟨hi, _, hl'⟩
      · subst hi; rw [upd_self] at hbx; subst hbx; exact hA' (.inl hA)
      · rw [upd_ne _ _ hi] at hbx; exact hA' (.inr ⟨i, hl', hbx⟩)
  have hne : ∀ i, Live st.H st.it i → ρ i ≠ b := fun i hl e => (h.own.out i hl).2 (e ▸ hA)
  refine ⟨upd ρ st.nx b, Rr.put (c := c.less b) (st := st.new (cs)) ⟨⟨fun i hi => ?_, fun i ds hd hne => ?_, fun i j hi hj he => ?_, fun i ds hd hne => ?_, fun i s q hi => ?_, fun i hi => ?_⟩, fun t => Rep.mono hle _ _ (h.slots t), h.size, h.defers,
    fun x hx => h.frame x hx.1, h.grow, Nat.le_succ_of_le h.ids, fun i hi => ?_, fun x hx => h.fF x hx.1, fun x hx => h.fA x hx.1, h.sw⟩ hd (hp _ (Nat.lt_succ_self _) (upd_self _ _ _))⟩
  · by_cases hx : i = st.nx
    · exact hx ▸ Nat.lt_succ_self _
    · simp only [PS.new, upd_ne _ _ hx] at hi; exact Nat.lt_succ_of_lt (h.own.bound i hi)
  · by_cases hx : i = st.nx
    · subst hx; exact hit
    · simp only [PS.new, upd_ne _ _ hx] at hd; exact h.own.excl i _ hd hne
  · rcases hlive i hi with h1 | ⟨h1, _, hl1⟩ <;> rcases hlive j hj with h2 | ⟨h2, _, hl2⟩
    · omega
    · subst h1; rw [upd_self, upd_ne _ _ h2] at he; exact absurd he.symm (hne j hl2)
    · subst h2; rw [upd_self, upd_ne _ _ h1] at he; exact absurd he (hne i hl1)
    · rw [upd_ne _ _ h1, upd_ne _ _ h2] at he; exact h.own.inj i j hl1 hl2 he
  · have hd : upd st.H st.nx (some cs) i = some ds := hd
    by_cases hx : i = st.nx
    · subst hx
      rw [upd_self] at hd; simp at hd; subst hd
      exact ⟨vs, te, by rw [upd_self]; exact hwb, RepL.mono hle _ _ hcs⟩
    · rw [upd_ne _ _ hx] at hd
      obtain ⟨us, e', hb', hr'⟩ := h.own.blk i ds hd hne
      exact ⟨us, e', by rw [upd_ne _ _ hx]; exact hb', RepL.mono hle _ _ hr'⟩
  · have hx : i ≠ st.nx := fun e => by subst e; simp [PS.new, hit] at hi
    have := h.own.itb i s q hi
    rw [upd_ne _ _ hx]; exact this
  · rcases hlive i hi with h1 | ⟨h1, _, hl1⟩
    · subst h1; rw [upd_self]
      exact ⟨fun hF => hF.2 rfl, fun hA => hA.2 rfl⟩
    · rw [upd_ne _ _ h1]
      exact ⟨fun hF => (h.own.out i hl1).1 hF.1, fun hA => (h.own.out i hl1).2 hA.1⟩
  · rw [upd_ne _ _ (Nat.ne_of_lt (Nat.lt_of_lt_of_le hi h.ids))]; exact h.ρk i hi

theorem R.congr {c c' : Cx} {st : PS} {a : Act} {w : World} (h : R c st a w) (hF : ∀ b, c'.F b → c.F b) (hA : ∀ b, c'.A0 b ↔ c.A0 b) (hk : c'.k = c.k) (hr : c'.ρ0 = c.ρ0) (hn : c'.n = c.n)
    (hfr : ∀ b, c'.F b → c.w0.heap[b]? = c'.w0.heap[b]?) (hg : c'.w0.heap.size ≤ c.w0.heap.size) (hs : Sw c'.w0 c.w0) (fF : ∀ b, c'.F b → b < c'.w0.heap.size) (fA : ∀ b, c'.A0 b → b < c'.w0.heap.size) : R c' st a w := by
  obtain ⟨ρ, h⟩ := h
  have e : c'.A0 = c.A0 := funext fun b => propext (hA b)
  refine ⟨ρ, ⟨h.own.bound, h.own.excl, h.own.inj, ?_, h.own.itb, fun i hi => ⟨fun hx => (h.own.out i hi).1 (hF _ hx), ?_⟩⟩, ?_, by rw [hn]; exact h.size, h.defers, fun b hb => (h.frame b (hF b hb)).trans (hfr b hb), Nat.le_trans hg h.grow, by rw [hk]; exact h.ids, by rw [hk, hr]; exact h.ρk, fF, fA, hs.trans h.sw⟩
  · rw [e]; exact h.own.blk
  · rw [e]; exact (h.own.out i hi).2
  · rw [e]; exact h.slots


theorem buildF_congr {st st' : PS} {t : TypeId} : ∀ (ps : List (Nat × Operand)) (cs : List PV), (∀ x ∈ ps.map (·.2), st'.ev x = st.ev x) → buildF P st' t ps cs = buildF P st t ps cs
  | [], _, _ => rfl
  | (i, x) :: ps, cs, h => by
    have hx := h x (by simp)
    simp only [buildF, hx]
    split
    · split
      · split
        · exact buildF_congr ps _ fun y hy => h y (by simp only [List.map_cons, List.mem_cons]; exact .inr hy)
        · rfl
      · rfl
    · rfl
theorem qv_congr {st st' : PS} {op : Op} (hH : st'.H = st.H) (h : ∀ x ∈ op.operands, st'.ev x = st.ev x) : qv P st' op = qv P st op := by
  cases op with
  | build t ps =>
    simp only [Op.operands] at h
    simp only [qv]
    split
    · rw [buildF_congr _ _ fun x hx => h x (by simpa using hx)]
    · rfl
  | slice t x lo hi mx =>
    cases mx with
    | none =>
      have hx := h x (by simp [Op.operands])
      have hlo : ∀ d, bndP st' d lo = bndP st d lo := fun d => by
        cases lo with
        | none => rfl
        | some y => have := h y (by simp [Op.operands]); simp only [bndP, this]
      have hhi : ∀ d, bndP st' d hi = bndP st d hi := fun d => by
        cases hi with
        | none => rfl
        | some y => have := h y (by simp [Op.operands]); simp only [bndP, this]
      simp only [qv, hx, hlo, hhi]
    | some m => simp only [qv]
  | makeFunc f first caps =>
    have hc : ∀ l : List Operand, (∀ x ∈ l, x ∈ caps.toList) → l.map st'.ev = l.map st.ev := fun l hl => List.map_congr_left fun x hx => h x (by
      have := hl x hx
      simp only [Op.operands, Array.mem_append]
      exact .inr (by simpa using this))
    cases f with
    | func g => simp only [qv, hc caps.toList (fun _ hx => hx)]
    | _ => rfl
  | call cc =>
    obtain ⟨callee, args, tys⟩ := cc
    have ha : ∀ x ∈ args.toList, st'.ev x = st.ev x := fun x hx => h x (by
      simp only [Op.operands, Call.operands, Array.mem_append]
      exact .inr (by simpa using hx))
    simp only [qv]
    split
    · rename_i x _ e2 _
      have := ha x (by rw [e2]; simp)
      simp only [this]
    · rename_i x _ e2 _
      have := ha x (by rw [e2]; simp)
      simp only [this]
    · rename_i x y _ _ e2 _
      have h1 := ha x (by rw [e2]; simp)
      have h2 := ha y (by rw [e2]; simp)
      simp only [h1, h2]
    · rfl
  | _ => first | rfl | (simp only [Op.operands] at h; simp only [qv, hH]; done) | (simp [Op.operands] at h; simp [qv, hH, h]; done)
end Go.Proofs.Ytfjdfnlkobeehaa
end

section
set_option linter.unusedVariables false
set_option linter.unusedSimpArgs false
namespace Go.Proofs.Ytfjdfnlkobeehaa

variable {P : Program}


def dstOK (n : Nat) (ops : List Oper) : Bool := ops.all fun o => match o.dst with
  | some d => decide (d < n)
  | none => true


def quietOp : Op → Bool
  | .move _ => true
  | .assign _ => true
  | .pick .. => true
  | .binOp .. => true
  | .unOp .. => true
  | .convert .. => true
  | .indexAddr .. => true
  | .index .. => true
  | .load .. => true
  | .fieldAddr .. => true
  | .build .. => true
  | .field .. => true
  | .extract .. => true
  | .nilCheck .. => true
  | .slice .. => true
  | .call ⟨.builtin .len, _, _⟩ => true
  | .call ⟨.builtin .cap, _, _⟩ => true
  | .call ⟨.builtin .max, _, _⟩ => true
  | _ => false

def notSel : Op → Bool
  | .select .. => false
  | _ => true

theorem notSel_spec {op : Op} (h : notSel op = true) : ∀ cs b, op ≠ .select cs b := by
  rintro cs b rfl; simp [notSel] at h

theorem pOp_quiet {o : Oper} {K : PS → Prop} {st : PS} (hq : quietOp o.op = true) (h : pOp P o K st) : ∃ p, qv P st o.op = some p ∧ K (st.put o.dst p) := by
  obtain ⟨dst, op, ty, pos, aft, g⟩ := o
  cases op <;> simp only [quietOp, Bool.false_eq_true] at hq
  case call c =>
    obtain ⟨callee, args, tys⟩ := c
    cases callee with
    | builtin b => cases b <;> simp only [Bool.false_eq_true] at hq <;> simpa [pOp] using h
    | value f => simp at hq
    | invoke r m => simp at hq
  all_goals simpa [pOp] using h


def reach (ops : Array Oper) : Nat → Nat → Nat → Bool
  | 0, _, _ => false
  | f + 1, i, j => match ops[i]? with
    | some o => o.after.toList.any fun e => Region.binds .any e && (e.on == j || reach ops f e.on j)
    | none => false

def dstNot (d : Option Tmp) (l : List Tmp) : Bool := match d with
  | some d => !l.contains d
  | none => true
def dstNe (d e : Option Tmp) : Bool := match d with
  | some d => e != some d
  | none => true


def mayFlo (o : Oper) : Bool := o.guard.isNone && match o.op with
  | .alloc _ => true
  | .buildSlice .. => true
  | _ => false
def floP (ops : Array Oper) : Operand → Bool
  | .const _ => true
  | .tmp t => ops.toList.all fun o => o.dst != some t || !mayFlo o
  | _ => false
def floB (ops : Array Oper) (o : Oper) : Bool := mayFlo o && o.op.operands.toList.all (floP ops)


def pairOK (P : Program) (rc : Nat → Nat → Bool) (ops : Array Oper) (i : Nat) (oi : Oper) (js : List Nat) (j : Nat) : Bool := match ops[j]? with
  | some oj => dstNot oi.dst (oj.looksAt ops) && dstNe oi.dst oj.dst && ((quietOp oj.op && dstNot oj.dst (oi.looksAt ops) && (quietOp oi.op || js.contains j)) || rc i j || (floB ops oi && !quietOp oj.op && dstNot oj.dst (oi.looksAt ops)))
  | none => false


def lateOK (rc : Nat → Nat → Bool) (ops : Array Oper) (i : Nat) (oi : Oper) (r : List (Nat × List Nat)) (j : Nat) : Bool := match ops[j]? with
  | some oj => dstNe oi.dst oj.dst && (rc i j && r.all fun k => rc k.1 j) && !floB ops oi
  | none => false

def goOK (P : Program) (rc : Nat → Nat → Bool) (n : Nat) (ops : Array Oper) : List Nat → List (Nat × List Nat) → Bool
  | _, [] => true
  | done, (i, js) :: r => (match ops[i]? with
    | some o => dstOK n [o] && notSel o.op && dstNot o.dst (o.looksAt ops) && (o.after.toList.all fun e => !Region.binds .any e || done.contains e.on) && !done.contains i && (done.all fun j => pairOK P rc ops i o js j || lateOK rc ops i o r j)
    | none => false) && goOK P rc n ops (i :: done) r

def planOK (P : Program) (rc : Nat → Nat → Bool) (n : Nat) (ops : Array Oper) (plan : List (Nat × List Nat)) : Bool :=
  goOK P rc n ops [] plan && (List.range ops.size).all fun i => (plan.map (·.1)).contains i


def ancOf (M : List Nat) (i : Nat) (o : Oper) : Nat :=
  o.after.toList.foldl (fun s e => if Region.binds .any e && Nat.blt e.on i then s ||| (2 ^ e.on ||| M.getD e.on 0) else s) 0
def ancOK (M : List Nat) (ops : Array Oper) : Bool :=
  Nat.beq M.length ops.size && (List.range ops.size).all fun i => match ops[i]? with
    | some o => Nat.beq (M.getD i 0) (ancOf M i o)
    | none => false
def reachM (M : List Nat) (i j : Nat) : Bool := (M.getD i 0).testBit j
theorem reach_mono {ops : Array Oper} : ∀ {f g i j : Nat}, f ≤ g → reach ops f i j = true → reach ops g i j = true
  | 0, _, _, _, _, h => by simp [reach] at h
  | f + 1, 0, _, _, hg, _ => absurd hg (by omega)
  | f + 1, g + 1, i, j, hg, h => by
    simp only [reach] at h ⊢
    cases ho : ops[i]? with
    | none => simp [ho] at h
    | some o =>
      simp only [ho, List.any_eq_true, Bool.and_eq_true, Bool.or_eq_true, beq_iff_eq] at h ⊢
      obtain ⟨e, he, hb, hj⟩ := h
      exact ⟨e, he, hb, hj.imp id fun hj => reach_mono (by omega) hj⟩
theorem ancOf_spec {M : List Nat} {i j : Nat} : ∀ (l : List Edge) (s : Nat), (l.foldl (fun s e => if Region.binds .any e && Nat.blt e.on i then s ||| (2 ^ e.on ||| M.getD e.on 0) else s) s).testBit j = true →
    s.testBit j = true ∨ ∃ e ∈ l, Region.binds .any e = true ∧ e.on < i ∧ (e.on = j ∨ (M.getD e.on 0).testBit j = true)
  | [], s, h => .inl h
  | e :: l, s, h => by
    rw [List.foldl_cons] at h
    rcases ancOf_spec l _ h with h | ⟨x, hx, h⟩
    · split at h
      · rename_i hb
        rw [Bool.and_eq_true] at hb
        have hlt : e.on < i := by
          have := hb.2
          rw [Nat.blt_eq] at this
          exact this
        simp only [Nat.testBit_or, Bool.or_eq_true, Nat.testBit_two_pow, decide_eq_true_eq] at h
        rcases h with h | h | h
        · exact .inl h
        · exact .inr ⟨e, List.mem_cons_self .., hb.1, hlt, .inl h⟩
        · exact .inr ⟨e, List.mem_cons_self .., hb.1, hlt, .inr h⟩
      · exact .inl h
    · exact .inr ⟨x, List.mem_cons_of_mem _ hx, h⟩
theorem ancOK_spec {M : List Nat} {ops : Array Oper} (h : ancOK M ops = true) : ∀ i j, reachM M i j = true → reach ops (i + 1) i j = true := by
  simp only [ancOK, Bool.and_eq_true] at h
  obtain ⟨h0, h1⟩ := h
  have h0 : M.length = ops.size := Nat.eq_of_beq_eq_true h0
  intro i
  induction i using Nat.strongRecOn with
  | _ i ih =>
    intro j hj
    by_cases hi : i < ops.size
    · have h2 := List.all_eq_true.1 h1 i (List.mem_range.2 hi)
      have ho : ops[i]? = some ops[i] := by simp [hi]
      rw [ho] at h2
      have h2 : M.getD i 0 = ancOf M i ops[i] := Nat.eq_of_beq_eq_true h2
      unfold reachM at hj
      rw [h2] at hj
      rcases ancOf_spec _ _ hj with hj | ⟨e, he, hb, hlt, hj⟩
      · simp at hj
      · simp only [reach, ho, List.any_eq_true, Bool.and_eq_true, Bool.or_eq_true, beq_iff_eq]
        refine ⟨e, he, hb, hj.imp id fun hj => ?_⟩
        exact reach_mono (by omega) (ih e.on hlt j hj)
    · unfold reachM at hj
      rw [List.getD_eq_getElem?_getD, List.getElem?_eq_none (by omega)] at hj
      simp at hj
theorem reachM_reach {M : List Nat} {ops : Array Oper} (h : ancOK M ops = true) (i j : Nat) (hr : reachM M i j = true) : reach ops (ops.size + 1) i j = true := by
  by_cases hi : i < ops.size
  · exact reach_mono (by omega) (ancOK_spec h i j hr)
  · have := ancOK_spec h i j hr
    simp [reach, hi] at this

def planB (P : Program) (n : Nat) (ops : Array Oper) (M : List Nat) (plan : List (Nat × List Nat)) : Bool := match M with
  | [] => planOK P (reach ops 4) n ops plan
  | _ => ancOK M ops && planOK P (reachM M) n ops plan
theorem planB_spec {n : Nat} {ops : Array Oper} {M : List Nat} {plan : List (Nat × List Nat)} (h : planB P n ops M plan = true) :
    ∃ rc f, (∀ i j, rc i j = true → reach ops f i j = true) ∧ planOK P rc n ops plan = true := by
  unfold planB at h
  split at h
  · exact ⟨_, 4, fun _ _ h => h, h⟩
  · rw [Bool.and_eq_true] at h
    exact ⟨_, _, reachM_reach h.1, h.2⟩

def stillAt (d : Option Nat) (s s' : PS) : Prop := match d with
  | none => True
  | some d => s'.sl d = s.sl d


def again (P : Program) (ops : Array Oper) : List Nat → PS → Prop
  | [], _ => True
  | j :: r, s => (match ops[j]? with
    | some o => pOps P ops (stillAt o.dst s) [o] s
    | none => False) ∧ again P ops r s


def pD (P : Program) (ops : Array Oper) (K : PS → Prop) : List (Nat × List Nat) → PS → Prop
  | [], st => K st
  | (i, js) :: r, st => match ops[i]? with
    | some o => pOps P ops (fun s => again P ops js s ∧ pD P ops K r s) [o] st
    | none => False


section
variable {ops : Array Oper}

theorem get_put {a : Act} {d : Option Tmp} {v : Value} {t : Tmp} (h : d ≠ some t) : (a.put d v).tmps[t]? = a.tmps[t]? := by
  cases d with
  | none => rfl
  | some d =>
    simp only [Act.put]
    rw [Array.getElem?_setIfInBounds_ne (fun e => h (by rw [e]))]

theorem get_put_self {a : Act} {t : Tmp} {v : Value} (h : t < a.tmps.size) : (a.put (some t) v).tmps[t]? = some v := by
  simp [Act.put, h]

theorem defers_put (a : Act) (d : Option Tmp) (v : Value) : (a.put d v).defers = a.defers := by cases d <;> rfl
theorem size_put (a : Act) (d : Option Tmp) (v : Value) : (a.put d v).tmps.size = a.tmps.size := by cases d <;> simp [Act.put]

theorem look_exec {o : Oper} (hs : notSel o.op = true) {a A : Act} (h : ∀ t ∈ o.looksAt ops, a.tmps[t]? = A.tmps[t]?) :
    execOp a.eval o = execOp A.eval o ∧ Region.wanted o (yielded ops a.tmps) = Region.wanted o (yielded ops A.tmps) := by
  constructor
  · refine execOp_congr o (notSel_spec hs) fun x hx => ?_
    cases x with
    | tmp t =>
      have := h t (List.mem_append_left _ (List.mem_filterMap.2 ⟨.tmp t, by simpa using hx, rfl⟩))
      simp only [Act.eval]
      rw [Array.getD_eq_getD_getElem?, Array.getD_eq_getD_getElem?, this]
    | _ => rfl
  · unfold Region.wanted
    cases hg : o.guard with
    | none => rfl
    | some jw =>
      obtain ⟨j, want⟩ := jw
      simp only []
      have : yielded ops a.tmps j = yielded ops A.tmps j := by
        unfold yielded
        cases hd : (ops[j]?).bind (·.dst) with
        | none => rfl
        | some d =>
          have := h d (List.mem_append_right _ (by simp [hg, hd]))
          simp only [Option.bind_some, this]
      rw [this]

theorem wp_shape {o : Oper} {a A : Act} {w : World} {K K' : Act → World → Prop} {Q : Exit → Act → World → Prop} (he : execOp a.eval o = execOp A.eval o)
    (h : o.wp P A w K (fun _ _ _ => False)) (hk : ∀ u w', K (A.put o.dst u) w' → K' (a.put o.dst u) w') (hdf : ∀ A' w', K A' w' → A'.defers = []) : o.wp P a w K' Q := by
  unfold Oper.wp at *
  rw [he]
  generalize (execOp A.eval o).run P w = r at *
  cases r with
  | ok n w' =>
    cases n <;> simp only [Oper.upon] at h ⊢
    case value v => exact hk _ _ h
    case skip => exact hk _ _ h
    case defer d =>
      have := hdf _ _ h
      rw [defers_put] at this
      simp at this
    case enter f args =>
      refine Calls.mono h fun e w'' he => ?_
      cases e with
      | returned v => exact hk _ _ he
      | panicked c => exact he.elim
      | outgrown => obtain ⟨_, _, h⟩ := he; exact h.elim
    case row r args => exact Rows.mono h fun _ _ he => hk _ _ he
  | halt x w' => cases x <;> simp only [Oper.upon] at h


def Yl (P : Program) (ops : Array Oper) (j : Nat) (A : Act) (w : World) : Prop :=
  ∃ o v, ops[j]? = some o ∧ ((Region.wanted o (yielded ops A.tmps) = true ∧ (execOp A.eval o).run P w = .ok (.value v) w) ∨ (Region.wanted o (yielded ops A.tmps) = false ∧ v = undef)) ∧
    ∀ d, o.dst = some d → A.tmps[d]? = some v


structure OpGood (P : Program) (f n : Nat) (ops : Array Oper) (pre : List Nat) (i : Nat) (js : List Nat) (post : List (Nat × List Nat)) (o : Oper) : Prop where
  at_ : ops[i]? = some o
  dst : ∀ x, o.dst = some x → x < n
  sel : notSel o.op = true
  self : ∀ d, o.dst = some d → d ∉ o.looksAt ops
  deps : ∀ e ∈ o.after.toList, Region.binds .any e = true → e.on ∈ pre
  fresh : i ∉ pre
  pair : ∀ j ∈ pre, ∃ oj, ops[j]? = some oj ∧ (∀ d, o.dst = some d → (d ∉ oj.looksAt ops ∨ (reach ops f i j = true ∧ (∀ k ∈ post.map (·.1), reach ops f k j = true) ∧ floB ops o = false)) ∧ oj.dst ≠ some d) ∧
    ((quietOp oj.op = true ∧ (∀ d, oj.dst = some d → d ∉ o.looksAt ops) ∧ (quietOp o.op = true ∨ j ∈ js)) ∨ reach ops f i j = true ∨ (floB ops o = true ∧ quietOp oj.op = false ∧ ∀ d, oj.dst = some d → d ∉ o.looksAt ops))

theorem goOK_spec {rc : Nat → Nat → Bool} {f n : Nat} (hrc : ∀ i j, rc i j = true → reach ops f i j = true) : ∀ (plan : List (Nat × List Nat)) (done : List Nat), goOK P rc n ops done plan = true →
    ∀ pre i js post, plan = pre ++ (i, js) :: post → ∃ o, OpGood P f n ops (done.reverse ++ pre.map (·.1)) i js post o
  | [], _, _, pre, i, js, post, e => by cases pre <;> simp at e
  | (i0, js0) :: r, done, h, pre, i, js, post, e => by
    simp only [goOK, Bool.and_eq_true] at h
    obtain ⟨h1, h2⟩ := h
    cases pre with
    | nil =>
      simp only [List.nil_append, List.cons.injEq, Prod.mk.injEq] at e
      obtain ⟨⟨rfl, rfl⟩, rfl⟩ := e
      cases ho : ops[i0]? with
      | none => simp [ho] at h1
      | some o =>
        simp only [ho, Bool.and_eq_true] at h1
        obtain ⟨⟨⟨⟨⟨h3, h4⟩, h5⟩, h6⟩, h7⟩, h8⟩ := h1
        refine ⟨o, ho, fun x hx => ?_, h4, fun d hd => ?_, fun e he hb => ?_, ?_, fun j hj => ?_⟩
        · simpa [dstOK, hx] using h3
        · simpa [dstNot, hd] using h5
        · have := List.all_eq_true.1 h6 e he
          simpa [hb] using this
        · simpa using h7
        · have hj' : j ∈ done := by simpa using hj
          have h8 := List.all_eq_true.1 h8 j hj'
          rw [Bool.or_eq_true] at h8
          rcases h8 with this | this
          · unfold pairOK at this
            cases hoj : ops[j]? with
            | none => simp [hoj] at this
            | some oj =>
              simp only [hoj, Bool.and_eq_true, Bool.or_eq_true] at this
              obtain ⟨⟨h9, h10⟩, h11⟩ := this
              refine ⟨oj, rfl, fun d hd => ⟨.inl (by simpa [dstNot, hd] using h9), by simpa [dstNe, hd] using h10⟩, ?_⟩
              rcases h11 with (⟨⟨h12, h13⟩, h14⟩ | h11) | h11
              · exact .inl ⟨h12, fun d hd => by simpa [dstNot, hd] using h13, by simpa using h14⟩
              · exact .inr (.inl (hrc _ _ h11))
              · obtain ⟨⟨h12, h13⟩, h14⟩ := h11
                exact .inr (.inr ⟨h12, by simpa using h13, fun d hd => by simpa [dstNot, hd] using h14⟩)
          · unfold lateOK at this
            cases hoj : ops[j]? with
            | none => simp [hoj] at this
            | some oj =>
              simp only [hoj, Bool.and_eq_true] at this
              obtain ⟨⟨h9, h10, h11⟩, h12⟩ := this
              refine ⟨oj, rfl, fun d hd => ⟨.inr ⟨hrc _ _ h10, fun k hk => ?_, by simpa using h12⟩, by simpa [dstNe, hd] using h9⟩, .inr (.inl (hrc _ _ h10))⟩
              obtain ⟨y, hy, rfl⟩ := List.mem_map.1 hk
              exact hrc _ _ (List.all_eq_true.1 h11 y hy)
    | cons x pre =>
      simp only [List.cons_append, List.cons.injEq] at e
      obtain ⟨rfl, rfl⟩ := e
      obtain ⟨o, ho⟩ := goOK_spec hrc _ (i0 :: done) h2 pre i js post rfl
      refine ⟨o, ?_⟩
      simpa using ho


def Un (listed : Array Bool) (i : Nat) : Prop := listed[i]? = some false

theorem Un.set {listed : Array Bool} {i j : Nat} : Un (listed.setIfInBounds i true) j ↔ Un listed j ∧ j ≠ i := by
  unfold Un
  by_cases h : j = i
  · subst h
    by_cases hj : j < listed.size <;> simp [Array.getElem?_setIfInBounds, hj]
  · rw [Array.getElem?_setIfInBounds_ne (Ne.symm h)]; simp [h]


def Down (ops : Array Oper) (listed : Array Bool) : Prop :=
  ∀ i o, ops[i]? = some o → ¬ Un listed i → ∀ e ∈ o.after.toList, Region.binds .any e = true → ¬ Un listed e.on

theorem reach_down {listed : Array Bool} (hd : Down ops listed) : ∀ (f i j : Nat), (∀ o, ops[i]? = some o → ∀ e ∈ o.after.toList, Region.binds .any e = true → ¬ Un listed e.on) → reach ops f i j = true → ¬ Un listed j
  | 0, _, _, _, h => by simp [reach] at h
  | f + 1, i, j, hi, h => by
    simp only [reach] at h
    cases ho : ops[i]? with
    | none => simp [ho] at h
    | some o =>
      simp only [ho, List.any_eq_true, Bool.and_eq_true, Bool.or_eq_true, beq_iff_eq] at h
      obtain ⟨e, he, hb, hj⟩ := h
      have h1 := hi o ho e he hb
      rcases hj with rfl | hj
      · exact h1
      · exact reach_down hd f e.on j (fun o ho => hd _ _ ho h1) hj

theorem Yl.put {c : Cx} {j : Nat} {A : Act} {w : World} (h : Yl P ops j A w) {d : Option Tmp} {u : Value} (hsel : ∀ o, ops[j]? = some o → notSel o.op = true)
    (hd : ∀ o, ops[j]? = some o → ∀ x, d = some x → x ∉ o.looksAt ops ∧ o.dst ≠ some x) : Yl P ops j (A.put d u) w := by
  obtain ⟨o, v, ho, hv, hg⟩ := h
  have h' := look_exec (ops := ops) (hsel o ho) (a := A.put d u) (A := A) fun t ht => get_put fun e => (hd o ho t e).1 ht
  refine ⟨o, v, ho, by rw [h'.1, h'.2]; exact hv, fun x hx => ?_⟩
  rw [get_put fun e => (hd o ho x e).2 hx]; exact hg x hx


theorem quiet_pOp {o : Oper} {K : PS → Prop} {st : PS} (hq : quietOp o.op = true) {p : PV} (hv : qv P st o.op = some p) (h : K (st.put o.dst p)) : pOp P o K st := by
  obtain ⟨dst, op, ty, pos, aft, g⟩ := o
  cases op <;> simp only [quietOp, Bool.false_eq_true] at hq
  case call c =>
    obtain ⟨callee, args, tys⟩ := c
    cases callee with
    | builtin b => cases b <;> simp only [Bool.false_eq_true] at hq <;> exact ⟨p, hv, h⟩
    | value f => simp at hq
    | invoke r m => simp at hq
  all_goals exact ⟨p, hv, h⟩
theorem ev_put {st : PS} {d : Option Nat} {p : PV} {x : Operand} (h : ∀ t, x = .tmp t → d ≠ some t) : (st.put d p).ev x = st.ev x := by
  cases x with
  | tmp t =>
    cases d with
    | none => rfl
    | some d =>
      simp only [PS.put, PS.ev]
      exact upd_ne _ _ fun e => h t rfl (by rw [e])
  | const v => cases d <;> rfl
  | global g => cases d <;> rfl
  | func f => cases d <;> rfl
theorem sl_put {st : PS} {d : Option Nat} {p : PV} {t : Nat} (h : d ≠ some t) : (st.put d p).sl t = st.sl t := by
  cases d with
  | none => rfl
  | some d =>
    simp only [PS.put]
    exact upd_ne _ _ fun e => h (by rw [e])
theorem H_put (st : PS) (d : Option Nat) (p : PV) : (st.put d p).H = st.H := by cases d <;> rfl
theorem stillAt_put {st : PS} {d e : Option Nat} {p q : PV} (h : ∀ x, d = some x → e ≠ some x) (hs : stillAt e st (st.put e q)) : stillAt e (st.put d p) ((st.put d p).put e q) := by
  cases e with
  | none => trivial
  | some x =>
    simp only [stillAt, PS.put, upd_self] at hs ⊢
    cases d with
    | none => simpa [PS.put, upd_self] using hs
    | some y =>
      have hne : x ≠ y := fun he => h y rfl (by rw [he])
      simp only [PS.put, upd_self]
      rw [upd_ne _ _ hne]; exact hs
theorem qv_put {st : PS} {d : Option Nat} {p : PV} {o : Oper} (h : ∀ x, d = some x → x ∉ o.looksAt ops) : qv P (st.put d p) o.op = qv P st o.op :=
  qv_congr (H_put st d p) fun x hx => ev_put fun t e hd => h t hd (List.mem_append_left _ (List.mem_filterMap.2 ⟨x, by simpa using hx, by rw [e]⟩))
theorem guard_put {st : PS} {d : Option Nat} {p : PV} {o : Oper} {r s r' s' : Prop} (h : ∀ x, d = some x → x ∉ o.looksAt ops) (hg : pGuard ops st o r s) (hr : r → r') (hs : s → s') : pGuard ops (st.put d p) o r' s' := by
  unfold pGuard at hg ⊢
  cases e : o.guard with
  | none => simp only [e] at hg; exact hr hg
  | some jw =>
    obtain ⟨j, want⟩ := jw
    simp only [e] at hg
    (try simp only [])
    split at hg
    · exact hg.elim
    · rename_i g hgd
      (try simp only [hgd])
      rw [sl_put fun hd => h g hd (List.mem_append_right _ (by simp [e, hgd]))]
      split at hg
      · rename_i x hx; (try simp only [hx]); exact ⟨fun hb => hr (hg.1 hb), fun hb => hs (hg.2 hb)⟩
      · rename_i x hx; (try simp only [hx]); exact hs hg
      · exact hg.elim

theorem ag_put {o : Oper} (hq : quietOp o.op = true) {st : PS} {d : Option Nat} {p : PV} (hd : ∀ x, d = some x → x ∉ o.looksAt ops ∧ o.dst ≠ some x) (h : pOps P ops (stillAt o.dst st) [o] st) :
    pOps P ops (stillAt o.dst (st.put d p)) [o] (st.put d p) := by
  refine guard_put (fun x hx => (hd x hx).1) h (fun hr => ?_) fun hs => ?_
  · obtain ⟨q, hv, hk⟩ := pOp_quiet hq hr
    exact quiet_pOp hq ((qv_put fun x hx => (hd x hx).1).trans hv) (stillAt_put (fun x hx => (hd x hx).2) hk)
  · exact stillAt_put (fun x hx => (hd x hx).2) hs
theorem stillAt_self (st : PS) (d : Option Nat) (p : PV) : stillAt d (st.put d p) ((st.put d p).put d p) := by
  cases d with
  | none => trivial
  | some d => simp only [stillAt, PS.put, upd_self]


theorem absorb {c : Cx} {o : Oper} {i : Nat} (ho : ops[i]? = some o) (hq : quietOp o.op = true) (hsel : notSel o.op = true) (hd : ∀ x, o.dst = some x → x < c.n) (hself : ∀ d, o.dst = some d → d ∉ o.looksAt ops)
    {K : PS → Prop} {st : PS} {A : Act} {w : World} (hR : R c st A w) (hp : pOps P ops K [o] st) : ∃ v p, K (st.put o.dst p) ∧ R c (st.put o.dst p) (A.put o.dst v) w ∧ Yl P ops i (A.put o.dst v) w ∧
      pOps P ops (stillAt o.dst (st.put o.dst p)) [o] (st.put o.dst p) := by
  have hsz : A.tmps.size = c.n := by obtain ⟨ρ, h⟩ := hR; exact h.size
  have look : ∀ v, execOp (A.put o.dst v).eval o = execOp A.eval o ∧ Region.wanted o (yielded ops (A.put o.dst v).tmps) = Region.wanted o (yielded ops A.tmps) := fun v =>
    look_exec (ops := ops) hsel fun t ht => get_put fun e => hself t e ht
  have slot : ∀ v d, o.dst = some d → (A.put o.dst v).tmps[d]? = some v := fun v d e => by
    rw [e]; exact get_put_self (by rw [hsz]; exact hd d e)
  
  have hboth : (∃ p, qv P st o.op = some p ∧ K (st.put o.dst p) ∧ Region.wanted o (yielded ops A.tmps) = true ∧ pGuard ops st o True False) ∨ (K (st.put o.dst (.val undef)) ∧ Region.wanted o (yielded ops A.tmps) = false ∧ pGuard ops st o False True) := by
    have hp2 : pGuard ops st o ((pOp P o K st) ∧ pGuard ops st o True False) (K (st.put o.dst (.val undef)) ∧ pGuard ops st o False True) := by
      have hp : pGuard ops st o (pOp P o K st) (K (st.put o.dst (.val undef))) := hp
      unfold pGuard at hp ⊢
      split at hp
      · rename_i e; simp only [e]; exact ⟨hp, trivial⟩
      · rename_i j want e
        simp only [e]
        split at hp
        · exact hp.elim
        · rename_i g hgd
          simp only [hgd]
          split at hp
          · rename_i x hx; simp only [hx]; exact ⟨fun hb => ⟨hp.1 hb, fun _ => trivial, fun hb' => hb' hb⟩, fun hb => ⟨hp.2 hb, fun hb' => hb hb', fun _ => trivial⟩⟩
          · rename_i x hx; simp only [hx]; exact ⟨hp, trivial⟩
          · exact hp.elim
    rcases guard_sound hR hp2 with ⟨hw, hrun, hg⟩ | ⟨hw, hskip, hg⟩
    · obtain ⟨p, hv, hK⟩ := pOp_quiet hq hrun
      exact .inl ⟨p, hv, hK, hw, hg⟩
    · exact .inr ⟨hskip, hw, hg⟩
  rcases hboth with ⟨p, hv, hK, hw, hg⟩ | ⟨hskip, hw, hg⟩
  · obtain ⟨ρ, h⟩ := hR
    obtain ⟨v, hv', hr⟩ := qv_sound h o hv
    refine ⟨v, p, hK, ⟨ρ, h.put hd hr⟩, ⟨o, v, ho, .inl ⟨by rw [(look v).2]; exact hw, by rw [(look v).1]; exact hv'⟩, slot v⟩, ?_⟩
    exact guard_put hself hg (fun _ => quiet_pOp hq ((qv_put hself).trans hv) (stillAt_self _ _ _)) fun h => h.elim
  · refine ⟨undef, .val undef, hskip, hR.put hd undef, ⟨o, undef, ho, .inr ⟨by rw [(look _).2]; exact hw, rfl⟩, slot _⟩, ?_⟩
    exact guard_put hself hg (fun h => h.elim) fun _ => stillAt_self _ _ _

theorem again_mem : ∀ {js : List Nat} {s : PS}, again P ops js s → ∀ j ∈ js, ∃ o, ops[j]? = some o ∧ pOps P ops (stillAt o.dst s) [o] s
  | [], _, _, j, hj => by simp at hj
  | k :: r, s, h, j, hj => by
    simp only [again] at h
    rcases List.mem_cons.1 hj with rfl | hj
    · have := h.1
      split at this
      · rename_i o ho; exact ⟨o, ho, this⟩
      · exact this.elim
    · exact again_mem h.2 j hj

theorem put_still {st : PS} {d : Option Nat} {p : PV} (h : stillAt d st (st.put d p)) : st.put d p = st := by
  cases d with
  | none => rfl
  | some d =>
    simp only [stillAt, PS.put] at h
    rw [upd_self] at h
    subst h
    show { st with sl := upd st.sl d (st.sl d) } = st
    have : upd st.sl d (st.sl d) = st.sl := by
      funext t
      by_cases ht : t = d
      · subst ht; rw [upd_self]
      · rw [upd_ne _ _ ht]
    rw [this]


theorem reval {c : Cx} {st : PS} {w : World} {U : Nat → Prop} : ∀ (D1 D0 : List Nat) (A : Act), R c st A w → (∀ j ∈ D0, U j → Yl P ops j A w) →
    (∀ pre j post, D1 = pre ++ j :: post → U j → ∃ o, ops[j]? = some o ∧ quietOp o.op = true ∧ notSel o.op = true ∧ (∀ x, o.dst = some x → x < c.n) ∧ (∀ d, o.dst = some d → d ∉ o.looksAt ops) ∧
      pOps P ops (stillAt o.dst st) [o] st ∧ ∀ k ∈ D0 ++ pre, U k → ∀ ok, ops[k]? = some ok → notSel ok.op = true ∧ ∀ d, o.dst = some d → d ∉ ok.looksAt ops ∧ ok.dst ≠ some d) →
    ∃ A', R c st A' w ∧ (∀ j ∈ D0 ++ D1, U j → Yl P ops j A' w) ∧ A'.defers = A.defers ∧ A'.tmps.size = A.tmps.size ∧
      ∀ t, (∀ j ∈ D1, U j → ∀ o, ops[j]? = some o → o.dst ≠ some t) → A'.tmps[t]? = A.tmps[t]?
  | [], D0, A, hR, h0, _ => ⟨A, hR, by simpa using h0, rfl, rfl, fun _ _ => rfl⟩
  | j :: D1, D0, A, hR, h0, h1 => by
    by_cases hU : U j
    · obtain ⟨o, ho, hq, hsel, hd, hself, hp, hk⟩ := h1 [] j D1 rfl hU
      obtain ⟨v, p, hs, hR', hy, _⟩ := absorb ho hq hsel hd hself hR hp
      rw [put_still hs] at hR'
      obtain ⟨A', hR2, hY2, e1, e2, e3⟩ := reval D1 (D0 ++ [j]) (A.put o.dst v) hR' (fun k hk' hUk => by
          rcases List.mem_append.1 hk' with hk' | hk'
          · exact Yl.put (c := c) (h0 k hk' hUk) (fun ok hok => (hk k (by simp [hk']) hUk ok hok).1) fun ok hok x hx => (hk k (by simp [hk']) hUk ok hok).2 x hx
          · simp at hk'; subst hk'; exact hy) (fun pre k post e hUk => by
          obtain ⟨o', g1, g2, g3, g4, g5, g6, g7⟩ := h1 (j :: pre) k post (by rw [e]; rfl) hUk
          exact ⟨o', g1, g2, g3, g4, g5, g6, fun k' hk' => g7 k' (by simpa using hk')⟩)
      refine ⟨A', hR2, by simpa using hY2, by rw [e1, defers_put], by rw [e2, size_put], fun t ht => ?_⟩
      rw [e3 t fun k hk' => ht k (by simp [hk'])]
      exact get_put (ht j (by simp) hU o ho)
    · obtain ⟨A', hR2, hY2, e1, e2, e3⟩ := reval D1 (D0 ++ [j]) A hR (fun k hk' hUk => by
          rcases List.mem_append.1 hk' with hk' | hk'
          · exact h0 k hk' hUk
          · simp at hk'; subst hk'; exact absurd hUk hU) (fun pre k post e hUk => by
          obtain ⟨o', g1, g2, g3, g4, g5, g6, g7⟩ := h1 (j :: pre) k post (by rw [e]; rfl) hUk
          exact ⟨o', g1, g2, g3, g4, g5, g6, fun k' hk' => g7 k' (by simpa using hk')⟩)
      exact ⟨A', hR2, by simpa using hY2, e1, e2, fun t ht => e3 t fun k hk' => ht k (by simp [hk'])⟩

theorem floB_may {o : Oper} (h : floB ops o = true) : mayFlo o = true := by
  simp only [floB, Bool.and_eq_true] at h; exact h.1
theorem mayFlo_spec {o : Oper} (h : mayFlo o = true) : o.guard = none ∧ quietOp o.op = false := by
  simp only [mayFlo, Bool.and_eq_true, Option.isNone_iff_eq_none] at h
  refine ⟨h.1, ?_⟩
  have := h.2
  split at this
  · rename_i e; rw [e]; rfl
  · rename_i e; rw [e]; rfl
  · simp at this

theorem floB_slots {o : Oper} (h : floB ops o = true) {t : Tmp} (ht : t ∈ o.looksAt ops) {j : Nat} {oj : Oper} (hj : ops[j]? = some oj) (hf : mayFlo oj = true) : oj.dst ≠ some t := by
  have hg := (mayFlo_spec (floB_may h)).1
  simp only [floB, Bool.and_eq_true] at h
  unfold Oper.looksAt at ht
  rw [hg] at ht
  simp only [List.append_nil, List.mem_filterMap] at ht
  obtain ⟨x, hx, hxt⟩ := ht
  have h2 := List.all_eq_true.1 h.2 x hx
  cases x with
  | tmp u =>
    obtain rfl : u = t := by simpa using hxt
    simp only [floP] at h2
    have h3 := List.all_eq_true.1 h2 oj (by
      rw [← Array.getElem?_toList] at hj
      exact List.mem_of_getElem? hj)
    intro e
    simp [e, hf] at h3
  | _ => simp at hxt
theorem looks_of {o : Oper} {x : Operand} {t : Tmp} (hx : x ∈ o.op.operands.toList) (e : x = .tmp t) : t ∈ o.looksAt ops :=
  List.mem_append_left _ (List.mem_filterMap.2 ⟨x, by simpa using hx, by rw [e]⟩)
theorem eval_of {a A : Act} {o : Oper} (h : ∀ t ∈ o.looksAt ops, a.tmps[t]? = A.tmps[t]?) : ∀ x ∈ o.op.operands.toList, a.eval x = A.eval x := by
  intro x hx
  cases x with
  | tmp t =>
    have := h t (looks_of hx rfl)
    simp only [Act.eval]
    rw [Array.getD_eq_getD_getElem?, Array.getD_eq_getD_getElem?, this]
  | _ => rfl

structure Flo (P : Program) (o : Oper) (ev : Operand → Value) (vs : Array Value) (te : TypeId) (mv : Nat → Value) (mp : Nat → PV) : Prop where
  run : ∀ w : World, (execOp ev o).run P w = .ok (.value (mv w.heap.size)) { w with heap := w.heap.push (.cells vs te (0, 0)) }
  walk : ∀ (c : Cx) (st : PS) (a : Act) (w : World) (ρ : Nat → Nat) (K : PS → Prop), Rr c st a w ρ → (∀ x ∈ o.op.operands.toList, a.eval x = ev x) → pOp P o K st → ∃ cs, RepL (enOf c.A0 w ρ st.H st.it st.nx) cs vs.toList ∧ K ((st.new cs).put o.dst (mp st.nx))
  rep : ∀ (E : En) (i b : Nat), i < E.nx → E.ρ i = b → Rep E (mp i) (mv b)
theorem floB_spec {o : Oper} (h : floB ops o = true) {c : Cx} {st : PS} {a : Act} {w : World} (hR : R c st a w) {K : PS → Prop} (hp : pOp P o K st) :
    ∃ (vs : Array Value) (te : TypeId) (mv : Nat → Value) (mp : Nat → PV), Flo P o a.eval vs te mv mp := by
  obtain ⟨ρ, hr⟩ := hR
  have h := floB_may h
  simp only [mayFlo, Bool.and_eq_true, Option.isNone_iff_eq_none] at h
  obtain ⟨hg, h⟩ := h
  split at h
  · rename_i e ho
    unfold pOp at hp
    rw [ho] at hp
    obtain ⟨z, hz, hK⟩ := hp
    refine ⟨z.toArray, e, fun b => .pointer (some ⟨b, 0, none⟩), fun i => .ptr i 0, fun w => ?_, fun c st a w ρ K _ _ hp => ?_, fun E i b h1 h2 => ?_⟩
    · obtain ⟨v, hv, rfl⟩ := zeroT_run hz w
      simp [execOp, ho, Instr.alloc, hv, newVar, newRow]
    · unfold pOp at hp
      rw [ho] at hp
      obtain ⟨z', hz', hK⟩ := hp
      rw [hz] at hz'
      obtain rfl := Option.some.inj hz'
      exact ⟨_, by simpa using RepL.vals z, hK⟩
    · simp only [Rep]; exact ⟨h1, by rw [h2]⟩
  · rename_i t n parts ho
    unfold pOp at hp
    rw [ho] at hp
    obtain ⟨e, he, sz, hs, hbig0, z, hz, hzl, cs, hf, hK⟩ := hp
    have h0 : RepL (enOf c.A0 w ρ st.H st.it st.nx) (repl n (z.map .val)) (repl n z) := by rw [repl_map]; exact RepL.vals _
    obtain ⟨us, hfill, hus⟩ := fillP_sound hr parts.toList _ _ cs h0 hf
    have hops : ∀ x ∈ parts.toList.map (·.2), x ∈ o.op.operands.toList := fun x hx => by
      rw [ho]
      simp only [Op.operands]
      simpa using hx
    refine ⟨us.toArray, e, fun b => .slice (some ⟨b, 0, none⟩) n n, fun i => .ref i 0 n n sz, fun w => ?_, fun c2 st2 a2 w2 ρ2 K2 hr2 hev hp2 => ?_, fun E i b h1 h2 => ?_⟩
    · obtain ⟨v, hv, rfl⟩ := zeroT_run hz w
      have hmade : (madeCells v.cells (n * sz)).toList = repl n v.cells.toList := made_eq (by simpa using hzl) n
      have hp : (parts.map fun (i, x) => (i, a.eval x)).toList = parts.toList.map fun p => (p.1, a.eval p.2) := by simp
      have hbig : ¬ (n * sz > 2 ^ 24) := by omega
      rw [← hmade, show (madeCells v.cells (n * sz)).toList.toArray = madeCells v.cells (n * sz) from by simp] at hfill
      simp only [execOp, ho]
      apply run_val
      simp only [Instr.buildSlice, Sem.run_bind, run_underlying (elemT_some he), Result.andThen_ok, sizeT_some hs, if_neg hbig, hp]
      by_cases hn : n * sz = 0
      · have e0 : madeCells v.cells (n * sz) = (Array.range (n * sz)).map fun i => (#[] : Array Value)[i % (#[] : Array Value).size]! := by
          rw [hn]; simp [madeCells]
        rw [e0] at hfill
        simp only [hn, if_true, Sem.run_pure, Result.andThen_ok, Sem.run_bind] at hfill ⊢
        rw [hfill]
        simp [newRow]
      · simp only [if_neg hn, Sem.run_bind, hv, Result.andThen_ok, Sem.run_pure]
        unfold madeCells at hfill
        rw [hfill]
        simp [newRow]
    · unfold pOp at hp2
      rw [ho] at hp2
      obtain ⟨e', he', sz', hs', _, z', hz', _, cs', hf', hK'⟩ := hp2
      rw [he] at he'; obtain rfl := Option.some.inj he'
      rw [hs] at hs'; obtain rfl := Option.some.inj hs'
      rw [hz] at hz'; obtain rfl := Option.some.inj hz'
      have h0' : RepL (enOf c2.A0 w2 ρ2 st2.H st2.it st2.nx) (repl n (z.map .val)) (repl n z) := by rw [repl_map]; exact RepL.vals _
      obtain ⟨us', hfill', hus'⟩ := fillP_sound hr2 parts.toList _ _ cs' h0' hf'
      have hpe : (parts.toList.map fun p => (p.1, a2.eval p.2)) = parts.toList.map fun p => (p.1, a.eval p.2) := List.map_congr_left fun p hp => by
        rw [hev p.2 (hops _ (List.mem_map_of_mem hp))]
      rw [hpe, hfill] at hfill'
      have hee : us.toArray = us'.toArray := Option.some.inj hfill'
      refine ⟨cs', ?_, hK'⟩
      have : us = us' := by simpa using congrArg Array.toList hee
      rw [this]; exact hus'
    · simp only [Rep]; exact ⟨h1, Nat.le_refl _, .inl (by rw [h2])⟩
  · simp at h


theorem sim_one {c : Cx} {o : Oper} {K : PS → Prop} {st : PS} {A : Act} {w : World} (hd : ∀ x, o.dst = some x → x < c.n) (hR : R c st A w) (hp : pOps P ops K [o] st) :
    ∃ st' A' w', K st' ∧ R c st' A' w' ∧ ∀ t, o.dst ≠ some t → A'.tmps[t]? = A.tmps[t]? := by
  have hp : pGuard ops st o (pOp P o K st) (K (st.put o.dst (.val undef))) := hp
  rcases guard_sound hR hp with ⟨_, hrun⟩ | ⟨_, hskip⟩
  · have hw := op_sound (Q := fun _ _ _ => False) hR hd hrun
    unfold Oper.wp at hw
    have fin : ∀ u w', Nx c K (A.put o.dst u) w' → ∃ st' A' w', K st' ∧ R c st' A' w' ∧ ∀ t, o.dst ≠ some t → A'.tmps[t]? = A.tmps[t]? := by
      rintro u w' ⟨st', hk, hr⟩
      exact ⟨st', _, w', hk, hr, fun t ht => get_put ht⟩
    generalize (execOp A.eval o).run P w = r at hw
    cases r with
    | ok n w' =>
      cases n <;> simp only [Oper.upon] at hw
      case value v => exact fin _ _ hw
      case skip => exact fin _ _ hw
      case defer d =>
        obtain ⟨st', _, ρ, hr⟩ := hw
        have := hr.defers
        rw [defers_put] at this
        simp at this
      case enter f args =>
        obtain ⟨e, w'', fr, he, _⟩ := hw []
        cases e with
        | returned v => exact fin _ _ he
        | panicked c => exact he.elim
        | outgrown => obtain ⟨_, _, h⟩ := he; exact h.elim
      case row r args =>
        obtain ⟨v, w'', he, _⟩ := hw (Frame.enter P 0 #[] .normal) []
        exact fin _ _ he
    | halt x w' => cases x <;> simp only [Oper.upon] at hw
  · exact ⟨_, A.put o.dst undef, w, hskip, hR.put hd undef, fun t ht => get_put ht⟩

theorem sim_upto {c : Cx} {K : PS → Prop} {L : List Tmp} {i : Nat} {js : List Nat} {post : List (Nat × List Nat)} : ∀ (pre : List (Nat × List Nat)) (st : PS) (A : Act) (w : World), R c st A w → pD P ops K (pre ++ (i, js) :: post) st →
    (∀ k ∈ pre.map (·.1), ∃ ok, ops[k]? = some ok ∧ (∀ x, ok.dst = some x → x < c.n) ∧ ∀ t ∈ L, ok.dst ≠ some t) → ∃ st' A' w', R c st' A' w' ∧ pD P ops K ((i, js) :: post) st' ∧ ∀ t ∈ L, A'.tmps[t]? = A.tmps[t]?
  | [], st, A, w, hR, hp, _ => ⟨st, A, w, hR, hp, fun _ _ => rfl⟩
  | (k, ks) :: pre, st, A, w, hR, hp, hk => by
    obtain ⟨ok, ho, hd, hL⟩ := hk k (by simp)
    simp only [List.cons_append, pD, ho] at hp
    obtain ⟨st1, A1, w1, ⟨_, hK⟩, hR1, h1⟩ := sim_one hd hR hp
    obtain ⟨st2, A2, w2, hR2, hp2, h2⟩ := sim_upto pre st1 A1 w1 hR1 hK fun k' hk' => hk k' (by simp only [List.map_cons, List.mem_cons]; exact .inr hk')
    exact ⟨st2, A2, w2, hR2, hp2, fun t ht => (h2 t ht).trans (h1 t (hL t ht))⟩


structure Ah (P : Program) (ops : Array Oper) (c cE : Cx) (E : List (Nat × Nat)) (a : Act) : Prop where
  n : cE.n = c.n
  k : cE.k = c.k
  ρ0 : cE.ρ0 = c.ρ0
  F : ∀ b, cE.F b ↔ c.F b ∨ ∃ j, (j, b) ∈ E
  A0 : ∀ b, cE.A0 b ↔ c.A0 b ∨ ∃ j, (j, b) ∈ E
  fr : ∀ b, c.F b → cE.w0.heap[b]? = c.w0.heap[b]?
  gr : c.w0.heap.size ≤ cE.w0.heap.size
  sw : Sw c.w0 cE.w0
  fF : ∀ b, c.F b → b < c.w0.heap.size
  fA : ∀ b, c.A0 b → b < c.w0.heap.size
  old : ∀ j b, (j, b) ∈ E → c.w0.heap.size ≤ b ∧ ∃ (o : Oper) (vs : Array Value) (te : TypeId) (mv : Nat → Value) (mp : Nat → PV) (ev : Operand → Value), ops[j]? = some o ∧ floB ops o = true ∧ Flo P o ev vs te mv mp ∧
    cE.w0.heap[b]? = some (.cells vs te (0, 0)) ∧ (∀ d, o.dst = some d → a.tmps[d]? = some (mv b)) ∧ ∀ x ∈ o.op.operands.toList, a.eval x = ev x
  inj : ∀ j j' b, (j, b) ∈ E → (j', b) ∈ E → j = j'
  fn : ∀ j b b', (j, b) ∈ E → (j, b') ∈ E → b = b'

theorem Ah.act {c cE : Cx} {E : List (Nat × Nat)} {a a' : Act} (h : Ah P ops c cE E a) (ha : ∀ j b, (j, b) ∈ E → ∀ o, ops[j]? = some o → floB ops o = true → (∀ d, o.dst = some d → a'.tmps[d]? = a.tmps[d]?) ∧ ∀ t ∈ o.looksAt ops, a'.tmps[t]? = a.tmps[t]?) : Ah P ops c cE E a' := by
  refine ⟨h.n, h.k, h.ρ0, h.F, h.A0, h.fr, h.gr, h.sw, h.fF, h.fA, fun j b hj => ?_, h.inj, h.fn⟩
  obtain ⟨h1, o, vs, te, mv, mp, ev, ho, h2, h3, h4, h5, h6⟩ := h.old j b hj
  obtain ⟨a1, a2⟩ := ha j b hj o ho h2
  exact ⟨h1, o, vs, te, mv, mp, ev, ho, h2, h3, h4, fun d hd => (a1 d hd).trans (h5 d hd), fun x hx => (eval_of a2 x hx).trans (h6 x hx)⟩

theorem Ah.add {c cE : Cx} {E : List (Nat × Nat)} {a A : Act} {st : PS} {w : World} (h : Ah P ops c cE E a) (hR : R cE st A w) {i : Nat} {o : Oper} (ho : ops[i]? = some o) (hi : ∀ b, (i, b) ∉ E)
    {vs : Array Value} {te : TypeId} {mv : Nat → Value} {mp : Nat → PV} {ev : Operand → Value} (h2 : floB ops o = true) (h3 : Flo P o ev vs te mv mp) (h4 : ∀ x ∈ o.op.operands.toList, a.eval x = ev x) (hself : ∀ d, o.dst = some d → d ∉ o.looksAt ops)
    (hd : ∀ d, o.dst = some d → d < a.tmps.size) (hne : ∀ j b, (j, b) ∈ E → ∀ oj, ops[j]? = some oj → ∀ d, o.dst = some d → oj.dst ≠ some d ∧ d ∉ oj.looksAt ops) {w1 : World} (hw : w1.heap = w.heap.push (.cells vs te (0, 0))) (hs : Sw w w1) :
    Ah P ops c (cE.plus w1 w.heap.size) ((i, w.heap.size) :: E) (a.put o.dst (mv w.heap.size)) := by
  obtain ⟨ρ, hr⟩ := hR
  have hsz : w1.heap.size = w.heap.size + 1 := by rw [hw]; simp
  have hold : ∀ b, b < w.heap.size → w1.heap[b]? = w.heap[b]? := fun b hb => by
    rw [hw, Array.getElem?_push]; simp [Nat.ne_of_lt hb]
  have hgr := h.gr
  have hgrow := hr.grow
  have hlt : ∀ j b, (j, b) ∈ E → b < w.heap.size := fun j b hj => by
    obtain ⟨_, o, vs, te, mv, mp, ev, _, _, _, h6, _⟩ := h.old j b hj
    have := lt_of_heap h6
    omega
  refine ⟨h.n, h.k, h.ρ0, fun b => ?_, fun b => ?_, fun b hb => ?_, ?_, h.sw.trans (hr.sw.trans hs), h.fF, h.fA, fun j b hj => ?_, fun j j' b hj hj' => ?_, fun j b b' hj hj' => ?_⟩
  · show (cE.F b ∨ b = _) ↔ _
    rw [h.F]
    constructor
    · rintro ((h1 | ⟨j, h1⟩) | h1)
      · exact .inl h1
      · exact .inr ⟨j, List.mem_cons_of_mem _ h1⟩
      · exact .inr ⟨i, by rw [h1]; exact List.mem_cons_self ..⟩
    · rintro (h1 | ⟨j, h1⟩)
      · exact .inl (.inl h1)
      · rcases List.mem_cons.1 h1 with h1 | h1
        · exact .inr (Prod.mk.inj h1).2
        · exact .inl (.inr ⟨j, h1⟩)
  · show (cE.A0 b ∨ b = _) ↔ _
    rw [h.A0]
    constructor
    · rintro ((h1 | ⟨j, h1⟩) | h1)
      · exact .inl h1
      · exact .inr ⟨j, List.mem_cons_of_mem _ h1⟩
      · exact .inr ⟨i, by rw [h1]; exact List.mem_cons_self ..⟩
    · rintro (h1 | ⟨j, h1⟩)
      · exact .inl (.inl h1)
      · rcases List.mem_cons.1 h1 with h1 | h1
        · exact .inr (Prod.mk.inj h1).2
        · exact .inl (.inr ⟨j, h1⟩)
  · show w1.heap[b]? = _
    have := h.fF b hb
    rw [hold b (by omega), hr.frame b ((h.F b).2 (.inl hb))]
    exact h.fr b hb
  · show _ ≤ w1.heap.size
    omega
  · rcases List.mem_cons.1 hj with hj | hj
    · obtain ⟨rfl, rfl⟩ := Prod.mk.inj hj
      refine ⟨by omega, o, vs, te, mv, mp, ev, ho, h2, h3, ?_, fun d hd' => ?_, fun x hx => ?_⟩
      · show w1.heap[w.heap.size]? = _
        rw [hw]; simp
      · rw [hd']; exact get_put_self (hd d hd')
      · rw [← h4 x hx]
        exact eval_of (fun t ht => get_put fun e => hself t e ht) x hx
    · obtain ⟨g1, o', vs', te', mv', mp', ev', ho', g2, g3, g6, g7, g8⟩ := h.old j b hj
      refine ⟨g1, o', vs', te', mv', mp', ev', ho', g2, g3, ?_, fun d hd' => ?_, fun x hx => ?_⟩
      · show w1.heap[b]? = _
        rw [hold b (hlt j b hj), hr.frame b ((h.F b).2 (.inr ⟨j, hj⟩))]; exact g6
      · rw [get_put]
        · exact g7 d hd'
        · exact fun e => (hne j b hj o' ho' d e).1 hd'
      · rw [← g8 x hx]
        exact eval_of (fun t ht => get_put fun e => (hne j b hj o' ho' t e).2 ht) x hx
  · rcases List.mem_cons.1 hj with e | hj <;> rcases List.mem_cons.1 hj' with e' | hj'
    · exact (Prod.mk.inj e).1.trans (Prod.mk.inj e').1.symm
    · have := hlt _ _ hj'; have := (Prod.mk.inj e).2; omega
    · have := hlt _ _ hj; have := (Prod.mk.inj e').2; omega
    · exact h.inj j j' b hj hj'
  · rcases List.mem_cons.1 hj with e | hj <;> rcases List.mem_cons.1 hj' with e' | hj'
    · exact (Prod.mk.inj e).2.trans (Prod.mk.inj e').2.symm
    · exact absurd ((Prod.mk.inj e).1 ▸ hj') (hi b')
    · exact absurd ((Prod.mk.inj e').1 ▸ hj) (hi b)
    · exact h.fn j b b' hj hj'


def drop1 (E : List (Nat × Nat)) (i : Nat) : List (Nat × Nat) := E.filter fun x => !(x.1 == i)
theorem mem_drop1 {E : List (Nat × Nat)} {i j b : Nat} : (j, b) ∈ drop1 E i ↔ (j, b) ∈ E ∧ j ≠ i := by
  simp [drop1]

theorem Ah.take {c cE : Cx} {E : List (Nat × Nat)} {a : Act} (h : Ah P ops c cE E a) {i b : Nat} (hi : (i, b) ∈ E) : Ah P ops c (cE.less b) (drop1 E i) a := by
  have hb := (h.old i b hi).1
  refine ⟨h.n, h.k, h.ρ0, fun x => ?_, fun x => ?_, h.fr, h.gr, h.sw, h.fF, h.fA, fun j b' hj => h.old j b' (mem_drop1.1 hj).1, fun j j' b' hj hj' => h.inj j j' b' (mem_drop1.1 hj).1 (mem_drop1.1 hj').1, fun j b' b'' hj hj' => h.fn j b' b'' (mem_drop1.1 hj).1 (mem_drop1.1 hj').1⟩
  · show (cE.F x ∧ x ≠ b) ↔ _
    rw [h.F]
    constructor
    · rintro ⟨h1 | ⟨j, h1⟩, h2⟩
      · exact .inl h1
      · exact .inr ⟨j, mem_drop1.2 ⟨h1, fun e => h2 (h.fn i x b (e ▸ h1) hi)⟩⟩
    · rintro (h1 | ⟨j, h1⟩)
      · exact ⟨.inl h1, fun e => by have := h.fF x h1; omega⟩
      · obtain ⟨h1, h2⟩ := mem_drop1.1 h1
        exact ⟨.inr ⟨j, h1⟩, fun e => h2 (h.inj j i b (e ▸ h1) hi)⟩
  · show (cE.A0 x ∧ x ≠ b) ↔ _
    rw [h.A0]
    constructor
    · rintro ⟨h1 | ⟨j, h1⟩, h2⟩
      · exact .inl h1
      · exact .inr ⟨j, mem_drop1.2 ⟨h1, fun e => h2 (h.fn i x b (e ▸ h1) hi)⟩⟩
    · rintro (h1 | ⟨j, h1⟩)
      · exact ⟨.inl h1, fun e => by have := h.fA x h1; omega⟩
      · obtain ⟨h1, h2⟩ := mem_drop1.1 h1
        exact ⟨.inr ⟨j, h1⟩, fun e => h2 (h.inj j i b (e ▸ h1) hi)⟩

theorem Ah.none {c : Cx} {a : Act} (fF : ∀ b, c.F b → b < c.w0.heap.size) (fA : ∀ b, c.A0 b → b < c.w0.heap.size) : Ah P ops c c [] a :=
  ⟨rfl, rfl, rfl, fun b => by simp, fun b => by simp, fun _ _ => rfl, Nat.le_refl _, Sw.refl _, fF, fA, fun j b hj => by simp at hj, fun j j' b hj => by simp at hj, fun j b b' hj => by simp at hj⟩
theorem Ah.end {c cE : Cx} {a A : Act} {st : PS} {w : World} (h : Ah P ops c cE [] a) (hR : R cE st A w) : R c st A w :=
  R.congr hR (fun b hb => (h.F b).2 (.inl hb)) (fun b => by rw [h.A0]; simp) h.k.symm h.ρ0.symm h.n.symm h.fr h.gr h.sw h.fF h.fA


structure Inv (P : Program) (f : Nat) (ops : Array Oper) (c cE : Cx) (E : List (Nat × Nat)) (K : PS → Prop) (plan D Lr : List (Nat × List Nat)) (listed : Array Bool) (a A : Act) (w : World) (st : PS) : Prop where
  split : plan = D ++ Lr
  size : listed.size = ops.size
  down : Down ops listed
  rest : ∀ x ∈ Lr, Un listed x.1 ∨ ∃ b, (x.1, b) ∈ E
  ear : ∀ j b, (j, b) ∈ E → j ∈ Lr.map (·.1) ∧ ¬ Un listed j
  wait : ∀ j ∈ D.map (·.1), Un listed j → (∃ o, ops[j]? = some o ∧ quietOp o.op = true ∧ pOps P ops (stillAt o.dst st) [o] st) ∧ Yl P ops j A w
  defers : a.defers = A.defers
  tsize : a.tmps.size = A.tmps.size
  agree : ∀ t, (∀ j ∈ D.map (·.1), Un listed j → ∀ o, ops[j]? = some o → o.dst ≠ some t) → (∀ j b, (j, b) ∈ E → ∀ o, ops[j]? = some o → o.dst ≠ some t) → a.tmps[t]? = A.tmps[t]?
  rep : R cE st A w
  ah : Ah P ops c cE E a
  walk : pD P ops K Lr st
  late : ∀ D1 x D2, D = D1 ++ x :: D2 → Un listed x.1 → ∀ j, reach ops f x.1 j = true → (∀ k ∈ (D2 ++ Lr).map (·.1), reach ops f k j = true) → ¬ Un listed j

section
variable {c cE : Cx} {E : List (Nat × Nat)} {K : PS → Prop} {plan D Lr : List (Nat × List Nat)} {listed : Array Bool} {a A : Act} {w : World} {st : PS} {f : Nat}


theorem dst_ne (hg : ∀ pre i js post, plan = pre ++ (i, js) :: post → ∃ o, OpGood P f c.n ops (pre.map (·.1)) i js post o) {i j : Nat} {oi oj : Oper} {d : Nat} (hi : i ∈ plan.map (·.1)) (hj : j ∈ plan.map (·.1)) (hij : i ≠ j)
    (ho : ops[i]? = some oi) (hoj : ops[j]? = some oj) (hd : oi.dst = some d) : oj.dst ≠ some d := by
  obtain ⟨y, hy1, hy2⟩ := List.mem_map.1 hi
  obtain ⟨pre, post, e⟩ := List.append_of_mem hy1
  obtain ⟨o, g⟩ := hg pre y.1 y.2 post e
  rw [hy2] at g
  obtain rfl : o = oi := Option.some.inj (g.at_.symm.trans ho)
  rw [e] at hj
  simp only [List.map_append, List.map_cons, List.mem_append, List.mem_cons] at hj
  rcases hj with hj | hj | hj
  · obtain ⟨ok, h1, h2, _⟩ := g.pair j hj
    obtain rfl : ok = oj := Option.some.inj (h1.symm.trans hoj)
    exact (h2 d hd).2
  · exact absurd (hy2.symm.trans hj.symm) hij
  · obtain ⟨z, hz1, hz2⟩ := List.mem_map.1 hj
    obtain ⟨p2, p3, e2⟩ := List.append_of_mem hz1
    obtain ⟨oz, gz⟩ := hg (pre ++ y :: p2) z.1 z.2 p3 (by rw [e, e2]; simp)
    rw [hz2] at gz
    obtain rfl : oz = oj := Option.some.inj (gz.at_.symm.trans hoj)
    obtain ⟨ok, h1, h2, _⟩ := gz.pair i (by simp [hy2])
    obtain rfl : ok = o := Option.some.inj (h1.symm.trans ho)
    exact fun hd' => (h2 d hd').2 hd


theorem early_looks (hg : ∀ pre i js post, plan = pre ++ (i, js) :: post → ∃ o, OpGood P f c.n ops (pre.map (·.1)) i js post o) (hdown : Down ops listed) {l1 l2 : List (Nat × List Nat)} {i j : Nat} {oi oj : Oper} {d : Nat}
    (hs : plan = l1 ++ l2) (hi : i ∈ l1.map (·.1)) (hj : j ∈ l2.map (·.1)) (ho : ops[i]? = some oi) (hoj : ops[j]? = some oj) (hU : Un listed i) (hn : ¬ Un listed j) (hd : oj.dst = some d) : d ∉ oi.looksAt ops := by
  obtain ⟨z, hz1, hz2⟩ := List.mem_map.1 hj
  obtain ⟨p2, p3, e2⟩ := List.append_of_mem hz1
  obtain ⟨oz, gz⟩ := hg (l1 ++ p2) z.1 z.2 p3 (by rw [hs, e2]; simp)
  rw [hz2] at gz
  obtain rfl : oz = oj := Option.some.inj (gz.at_.symm.trans hoj)
  obtain ⟨ok, h1, h2, _⟩ := gz.pair i (by rw [List.map_append, List.mem_append]; exact .inl hi)
  obtain rfl : ok = oi := Option.some.inj (h1.symm.trans ho)
  rcases (h2 d hd).1 with hx | ⟨hr, _⟩
  · exact hx
  · exact absurd hU (reach_down hdown f j i (fun o ho' e he hb => hdown j o ho' hn e he hb) hr)


theorem behind_looks (hg : ∀ pre i js post, plan = pre ++ (i, js) :: post → ∃ o, OpGood P f c.n ops (pre.map (·.1)) i js post o) (hdown : Down ops listed) {l1 l2 : List (Nat × List Nat)} {i j : Nat} {oi oj : Oper} {d : Nat}
    (hs : plan = l1 ++ l2) (hi : i ∈ l1.map (·.1)) (hj : j ∈ l2.map (·.1)) (ho : ops[i]? = some oi) (hoj : ops[j]? = some oj) (hU : Un listed i) (hn : ¬ Un listed j) (hd : oi.dst = some d) : d ∉ oj.looksAt ops := by
  obtain ⟨z, hz1, hz2⟩ := List.mem_map.1 hj
  obtain ⟨p2, p3, e2⟩ := List.append_of_mem hz1
  obtain ⟨oz, gz⟩ := hg (l1 ++ p2) z.1 z.2 p3 (by rw [hs, e2]; simp)
  rw [hz2] at gz
  obtain rfl : oz = oj := Option.some.inj (gz.at_.symm.trans hoj)
  obtain ⟨ok, h1, _, h3⟩ := gz.pair i (by rw [List.map_append, List.mem_append]; exact .inl hi)
  obtain rfl : ok = oi := Option.some.inj (h1.symm.trans ho)
  rcases h3 with h3 | h3 | h3
  · exact h3.2.1 d hd
  · exact absurd hU (reach_down hdown f j i (fun o ho' e he hb => hdown j o ho' hn e he hb) h3)
  · exact h3.2.2 d hd

theorem flo_agree (hg : ∀ pre i js post, plan = pre ++ (i, js) :: post → ∃ o, OpGood P f c.n ops (pre.map (·.1)) i js post o) {i : Nat} {js : List Nat} {pre post : List (Nat × List Nat)} (h : Inv P f ops c cE E K plan D (pre ++ (i, js) :: post) listed a A w st)
    (hri : ∀ o, ops[i]? = some o → ∀ e ∈ o.after.toList, Region.binds .any e = true → ¬ Un listed e.on) {o : Oper} (ho : ops[i]? = some o) (hf : floB ops o = true) : ∀ t ∈ o.looksAt ops, a.tmps[t]? = A.tmps[t]? := by
  intro t ht
  obtain ⟨oi, g⟩ := hg (D ++ pre) i js post (by rw [h.split]; simp)
  obtain rfl : oi = o := Option.some.inj (g.at_.symm.trans ho)
  refine h.agree t (fun j hj hUj oj hoj hdj => ?_) fun j b hj oj hoj => ?_
  · obtain ⟨ok, h1, _, h3⟩ := g.pair j (by rw [List.map_append, List.mem_append]; exact .inl hj)
    obtain rfl : ok = oj := Option.some.inj (h1.symm.trans hoj)
    rcases h3 with h3 | h3 | h3
    · exact h3.2.1 t hdj ht
    · exact reach_down h.down f i j hri h3 hUj
    · exact h3.2.2 t hdj ht
  · obtain ⟨_, o', _, _, _, _, _, ho', hf', _⟩ := h.ah.old j b hj
    obtain rfl : o' = oj := Option.some.inj (ho'.symm.trans hoj)
    exact floB_slots hf ht hoj (floB_may hf')


theorem revals (hg : ∀ pre i js post, plan = pre ++ (i, js) :: post → ∃ o, OpGood P f c.n ops (pre.map (·.1)) i js post o) (hs : plan = D ++ Lr) (hdown : Down ops listed) {i : Nat} (hi : i ∈ Lr.map (·.1))
    (hri : ∀ o, ops[i]? = some o → ∀ e ∈ o.after.toList, Region.binds .any e = true → ¬ Un listed e.on) {c' : Cx} (hn : c'.n = c.n) {st2 : PS} {A2 : Act} {w2 : World} (hR : R c' st2 A2 w2)
    (hag : ∀ j ∈ D.map (·.1), Un listed j → ∃ o, ops[j]? = some o ∧ quietOp o.op = true ∧ pOps P ops (stillAt o.dst st2) [o] st2) :
    ∃ A', R c' st2 A' w2 ∧ (∀ j ∈ D.map (·.1), Un listed j → Yl P ops j A' w2) ∧ A'.defers = A2.defers ∧ A'.tmps.size = A2.tmps.size ∧
      ∀ t, (∀ j ∈ D.map (·.1), Un listed j → ∀ o, ops[j]? = some o → o.dst ≠ some t) → A'.tmps[t]? = A2.tmps[t]? := by
  obtain ⟨A', g1, g2, g3⟩ := reval (c := c') (P := P) (ops := ops) (st := st2) (w := w2) (U := Un listed) (D.map (·.1)) [] A2 hR (by simp) (fun pre1 j post1 e hUj => by
    have hj : j ∈ D.map (·.1) := by rw [e]; simp
    obtain ⟨ok, f1, f2, f5⟩ := hag j hj hUj
    obtain ⟨L1, L2, eL, m1, m2⟩ := List.map_eq_append_iff.1 e
    cases L2 with
    | nil => simp at m2
    | cons z L2 =>
      simp only [List.map_cons, List.cons.injEq] at m2
      obtain ⟨m2, m3⟩ := m2
      obtain ⟨oz, gz⟩ := hg L1 z.1 z.2 (L2 ++ Lr) (by rw [hs, eL]; simp)
      rw [m2] at gz
      obtain rfl : oz = ok := Option.some.inj (gz.at_.symm.trans f1)
      refine ⟨oz, f1, f2, gz.sel, by rw [hn]; exact gz.dst, gz.self, f5, fun k hk hUk ok2 hok2 => ?_⟩
      simp only [List.nil_append] at hk
      rw [← m1] at hk
      obtain ⟨o3, p1, p2, _⟩ := gz.pair k hk
      obtain rfl : o3 = ok2 := Option.some.inj (p1.symm.trans hok2)
      refine ⟨?_, fun d hd => ⟨(p2 d hd).1.resolve_right fun hl => reach_down hdown f i k hri (hl.2.1 i (by rw [List.map_append, List.mem_append]; exact .inr hi)) hUk, (p2 d hd).2⟩⟩
      obtain ⟨y3, q1, q2⟩ := List.mem_map.1 hk
      obtain ⟨pre3, post3, q3⟩ := List.append_of_mem q1
      obtain ⟨o4, g4⟩ := hg pre3 y3.1 y3.2 (post3 ++ z :: L2 ++ Lr) (by rw [hs, eL, q3]; simp)
      rw [q2] at g4
      have : o4 = o3 := Option.some.inj (g4.at_.symm.trans p1)
      exact this ▸ g4.sel)
  exact ⟨A', g1, by simpa using g2, g3⟩

theorem Inv.absorb (hg : ∀ pre i js post, plan = pre ++ (i, js) :: post → ∃ o, OpGood P f c.n ops (pre.map (·.1)) i js post o) {i : Nat} {js : List Nat} (h : Inv P f ops c cE E K plan D ((i, js) :: Lr) listed a A w st) (hUi : Un listed i)
    (hq : ∀ o, ops[i]? = some o → quietOp o.op = true) (hx' : ∀ j, reach ops f i j = true → (∀ k ∈ Lr.map (·.1), reach ops f k j = true) → ¬ Un listed j) : ∃ A' st', Inv P f ops c cE E K plan (D ++ [(i, js)]) Lr listed a A' w st' := by
  obtain ⟨o, g⟩ := hg D i js Lr h.split
  have hw := h.walk
  simp only [pD, g.at_] at hw
  obtain ⟨v, p, ⟨_, hK⟩, hR, hy, hself⟩ := Ytfjdfnlkobeehaa.absorb g.at_ (hq o g.at_) g.sel (by rw [h.ah.n]; exact g.dst) g.self h.rep hw
  have hpair : ∀ j ∈ D.map (·.1), Un listed j → ∀ ok, ops[j]? = some ok → ∀ x, o.dst = some x → x ∉ ok.looksAt ops ∧ ok.dst ≠ some x := fun j hj hU ok hok x hx => by
    obtain ⟨oj, h1, h2, _⟩ := g.pair j hj
    obtain rfl : oj = ok := Option.some.inj (h1.symm.trans hok)
    exact ⟨(h2 x hx).1.resolve_right fun hl => hx' j hl.1 hl.2.1 hU, (h2 x hx).2⟩
  refine ⟨_, _, ⟨by rw [h.split]; simp, h.size, h.down, fun x hx => h.rest x (List.mem_cons_of_mem _ hx), fun j b hj => ?_, fun j hj hU => ?_, by rw [defers_put]; exact h.defers, by rw [size_put]; exact h.tsize, fun t ht ht2 => ?_, hR, h.ah, hK, fun D1 x D2 e hU j hj hk => ?_⟩⟩
  · obtain ⟨h1, h2⟩ := h.ear j b hj
    simp only [List.map_cons, List.mem_cons] at h1
    rcases h1 with h1 | h1
    · exact absurd (h1 ▸ hUi) h2
    · exact ⟨h1, h2⟩
  · rw [List.map_append, List.mem_append] at hj
    rcases hj with hj | hj
    · obtain ⟨⟨ok, hok, hqk, hag⟩, hy'⟩ := h.wait j hj hU
      refine ⟨⟨ok, hok, hqk, ag_put hqk (fun x hx => hpair j hj hU ok hok x hx) hag⟩, Yl.put (c := c) hy' (fun ok hok => ?_) fun ok hok x hx => hpair j hj hU ok hok x hx⟩
      obtain ⟨y, hy1, hy2⟩ := List.mem_map.1 hj
      obtain ⟨pre, post, e⟩ := List.append_of_mem hy1
      obtain ⟨oy, gy⟩ := hg pre y.1 y.2 (post ++ (i, js) :: Lr) (by rw [h.split, e]; simp)
      have : oy = ok := by have := gy.at_; rw [hy2] at this; exact Option.some.inj (this.symm.trans hok)
      exact this ▸ gy.sel
    · simp at hj; subst hj; exact ⟨⟨o, g.at_, hq o g.at_, hself⟩, hy⟩
  · rw [get_put]
    · exact h.agree t (fun j hj hU => ht j (by simp only [List.map_append, List.mem_append]; exact .inl hj) hU) ht2
    · exact ht i (by simp) hUi o g.at_
  · rcases List.eq_nil_or_concat D2 with e0 | ⟨D3, y, e0⟩
    · subst e0
      have hx2 := (List.append_inj' e rfl).2
      simp only [List.cons.injEq, and_true] at hx2
      subst hx2
      exact hx' j hj (by simpa using hk)
    · subst e0
      have hx2 := List.append_inj' (s₁ := D) (s₂ := D1 ++ x :: D3) (t₁ := [(i, js)]) (t₂ := [y]) (by rw [e]; simp) rfl
      have hy := hx2.2
      simp only [List.cons.injEq, and_true] at hy
      subst hy
      exact h.late D1 x D3 hx2.1 hU j hj (by simpa using hk)


theorem Inv.adopt (hg : ∀ pre i js post, plan = pre ++ (i, js) :: post → ∃ o, OpGood P f c.n ops (pre.map (·.1)) i js post o) {i b : Nat} {js : List Nat} (h : Inv P f ops c cE E K plan D ((i, js) :: Lr) listed a A w st) (hb : (i, b) ∈ E) :
    ∃ A' st', Inv P f ops c (cE.less b) (drop1 E i) K plan (D ++ [(i, js)]) Lr listed a A' w st' := by
  obtain ⟨o, g⟩ := hg D i js Lr h.split
  have hn : ¬ Un listed i := (h.ear i b hb).2
  have hri : ∀ o, ops[i]? = some o → ∀ e ∈ o.after.toList, Region.binds .any e = true → ¬ Un listed e.on := fun o ho e he hb => h.down i o ho hn e he hb
  obtain ⟨_, o', vs, te, mv, mp, ev, ho', hflo, hwalk, hheap, hslot, hev⟩ := h.ah.old i b hb
  obtain ⟨hgd, hnq⟩ := mayFlo_spec (floB_may hflo)
  obtain rfl : o' = o := Option.some.inj (ho'.symm.trans g.at_)
  have hw := h.walk
  simp only [pD, ho'] at hw
  have hw : pOp P o' (fun s => again P ops js s ∧ pD P ops K Lr s) st := by
    have : pGuard ops st o' (pOp P o' (fun s => again P ops js s ∧ pD P ops K Lr s) st) _ := hw
    unfold pGuard at this
    simpa only [hgd] using this
  have hagr := flo_agree (pre := []) hg h hri ho' hflo
  obtain ⟨ρ, hrr⟩ := h.rep
  obtain ⟨cs, hcs, hag, hpd⟩ := hwalk.walk _ st A w ρ _ hrr (fun x hx => (eval_of hagr x hx).symm.trans (hev x hx)) hw
  have hR := R.adopt (a := A) hrr hcs ((h.ah.F b).2 (.inr ⟨i, hb⟩)) ((h.ah.A0 b).2 (.inr ⟨i, hb⟩)) hheap (d := o'.dst) (by rw [h.ah.n]; exact g.dst) (p := mp st.nx) (v := mv b) (fun E h1 h2 => hwalk.rep E _ _ h1 h2)
  have hUn : ∀ j ∈ D.map (·.1), Un listed j → ∃ oj, ops[j]? = some oj ∧ quietOp oj.op = true ∧ pOps P ops (stillAt oj.dst ((st.new cs).put o'.dst (mp st.nx))) [oj] ((st.new cs).put o'.dst (mp st.nx)) := by
    intro j hj hUj
    obtain ⟨⟨oj, hoj, hqj, _⟩, _⟩ := h.wait j hj hUj
    obtain ⟨ok, e1, _, e3⟩ := g.pair j hj
    obtain rfl : ok = oj := Option.some.inj (e1.symm.trans hoj)
    rcases e3 with e3 | e3 | e3
    · rcases e3.2.2 with hx | hx
      · rw [hnq] at hx; simp at hx
      · obtain ⟨o2, f4, f5⟩ := again_mem hag j hx
        obtain rfl : o2 = ok := Option.some.inj (f4.symm.trans hoj)
        exact ⟨o2, hoj, hqj, f5⟩
    · exact absurd hUj (reach_down h.down f i j hri e3)
    · rw [hqj] at e3; simp at e3
  obtain ⟨A2, hR3, hY, e1, e2, e3⟩ := revals hg (Lr := (i, js) :: Lr) h.split h.down (i := i) (by simp) hri (c' := cE.less b) h.ah.n hR hUn
  refine ⟨A2, _, ⟨by rw [h.split]; simp, h.size, h.down, fun x hx => ?_, fun j b' hj => ?_, fun j hj hU => ?_, by rw [e1, defers_put]; exact h.defers, by rw [e2, size_put]; exact h.tsize, fun t ht ht2 => ?_, hR3, h.ah.take hb, hpd, fun D1 x D2 e hU j hj hk => ?_⟩⟩
  · rcases h.rest x (List.mem_cons_of_mem _ hx) with h1 | ⟨b', h1⟩
    · exact .inl h1
    · refine .inr ⟨b', mem_drop1.2 ⟨h1, fun e => ?_⟩⟩
      obtain ⟨pre2, post2, q⟩ := List.append_of_mem hx
      obtain ⟨ox, gx⟩ := hg (D ++ (i, js) :: pre2) x.1 x.2 post2 (by rw [h.split, q]; simp)
      exact gx.fresh (by rw [e]; simp)
  · obtain ⟨h1, h2⟩ := mem_drop1.1 hj
    obtain ⟨h3, h4⟩ := h.ear j b' h1
    simp only [List.map_cons, List.mem_cons] at h3
    exact ⟨h3.resolve_left h2, h4⟩
  · rw [List.map_append, List.mem_append] at hj
    rcases hj with hj | hj
    · exact ⟨hUn j hj hU, hY j hj hU⟩
    · simp at hj; subst hj; exact absurd hU hn
  · have ht' : ∀ j ∈ D.map (·.1), Un listed j → ∀ oj, ops[j]? = some oj → oj.dst ≠ some t := fun j hj hUj => ht j (by rw [List.map_append, List.mem_append]; exact .inl hj) hUj
    rw [e3 t ht']
    by_cases hdt : o'.dst = some t
    · have hsz : t < A.tmps.size := by
        obtain ⟨ρ, hr⟩ := h.rep
        rw [hr.size, h.ah.n]; exact g.dst t hdt
      rw [hdt, get_put_self hsz]
      exact hslot t hdt
    · rw [get_put hdt]
      refine h.agree t ht' fun j b' hj oj hoj => ?_
      by_cases hji : j = i
      · subst hji
        obtain rfl : oj = o' := Option.some.inj (hoj.symm.trans ho')
        exact hdt
      · exact ht2 j b' (mem_drop1.2 ⟨hj, hji⟩) oj hoj
  · rcases List.eq_nil_or_concat D2 with e0 | ⟨D3, y, e0⟩
    · subst e0
      have hx2 := (List.append_inj' e rfl).2
      simp only [List.cons.injEq, and_true] at hx2
      subst hx2
      exact absurd hU hn
    · subst e0
      have hx2 := List.append_inj' (s₁ := D) (s₂ := D1 ++ x :: D3) (t₁ := [(i, js)]) (t₂ := [y]) (by rw [e]; simp) rfl
      have hy := hx2.2
      simp only [List.cons.injEq, and_true] at hy
      subst hy
      exact h.late D1 x D3 hx2.1 hU j hj (by simpa using hk)


theorem Inv.upto (hg : ∀ pre i js post, plan = pre ++ (i, js) :: post → ∃ o, OpGood P f c.n ops (pre.map (·.1)) i js post o) {i : Nat} {js : List Nat} (hri : ∀ o, ops[i]? = some o → ∀ e ∈ o.after.toList, Region.binds .any e = true → ¬ Un listed e.on)
    (hnf : ∀ o, ops[i]? = some o → floB ops o = false) :
    ∀ (pre D : List (Nat × List Nat)) (cE : Cx) (E : List (Nat × Nat)) (A : Act) (st : PS), Inv P f ops c cE E K plan D (pre ++ (i, js) :: Lr) listed a A w st → ∃ cE' E' A' st', Inv P f ops c cE' E' K plan (D ++ pre) ((i, js) :: Lr) listed a A' w st'
  | [], D, cE, E, A, st, h => ⟨cE, E, A, st, by simpa using h⟩
  | (k, ks) :: pre, D, cE, E, A, st, h => by
    rcases h.rest (k, ks) (by simp) with hU | ⟨b, hb⟩
    · obtain ⟨A', st', h'⟩ := Inv.absorb hg (i := k) (js := ks) (Lr := pre ++ (i, js) :: Lr) h hU (fun ok hok => by
        obtain ⟨o, g⟩ := hg (D ++ (k, ks) :: pre) i js Lr (by rw [h.split]; simp)
        obtain ⟨oj, h1, _, h3⟩ := g.pair k (by simp)
        obtain rfl : oj = ok := Option.some.inj (h1.symm.trans hok)
        rcases h3 with h3 | h3 | h3
        · exact h3.1
        · exact absurd hU (reach_down h.down f i k hri h3)
        · rw [hnf o g.at_] at h3; simp at h3) (fun j _ hk => reach_down h.down f i j hri (hk i (by simp)))
      obtain ⟨cE2, E2, A2, st2, h2⟩ := Inv.upto hg hri hnf pre (D ++ [(k, ks)]) cE E A' st' h'
      exact ⟨cE2, E2, A2, st2, by simpa using h2⟩
    · obtain ⟨A', st', h'⟩ := Inv.adopt hg (Lr := pre ++ (i, js) :: Lr) h hb
      obtain ⟨cE2, E2, A2, st2, h2⟩ := Inv.upto hg hri hnf pre (D ++ [(k, ks)]) _ _ A' st' h'
      exact ⟨cE2, E2, A2, st2, by simpa using h2⟩

theorem ready_spec {i : Nat} : i ∈ Region.ready .any ops listed ↔ i < ops.size ∧ listed.getD i true = false ∧ ∃ o, ops[i]? = some o ∧ ∀ e ∈ o.after, Region.binds .any e = true → listed.getD e.on false = true := by
  unfold Region.ready
  rw [List.mem_filter, List.mem_range]
  constructor
  · rintro ⟨h1, h2⟩
    simp only [Bool.and_eq_true, Bool.not_eq_true'] at h2
    refine ⟨h1, h2.1, ops[i], by simp [h1], fun e he hb => ?_⟩
    have h3 := h2.2
    simp only [h1, getElem?_pos, Option.map_some, Option.getD_some, Array.all_eq_true'] at h3
    have := h3 e he
    simpa [hb] using this
  · rintro ⟨h1, h2, o, ho, h3⟩
    refine ⟨h1, ?_⟩
    simp only [Bool.and_eq_true, Bool.not_eq_true']
    refine ⟨h2, ?_⟩
    simp only [ho, Option.map_some, Option.getD_some, Array.all_eq_true']
    intro e he
    cases hb : Region.binds .any e with
    | false => simp
    | true => simp [h3 e he hb]

theorem un_of_getD {i : Nat} (h : listed.getD i true = false) : Un listed i := by
  unfold Un
  rw [Array.getD_eq_getD_getElem?] at h
  cases hx : listed[i]? with
  | none => simp [hx] at h
  | some b => simp [hx] at h; rw [h]
theorem not_un_of_getD {i : Nat} (h : listed.getD i false = true) : ¬ Un listed i := by
  unfold Un
  rw [Array.getD_eq_getD_getElem?] at h
  intro hu
  rw [hu] at h; simp at h

theorem Inv.step (hg : ∀ pre i js post, plan = pre ++ (i, js) :: post → ∃ o, OpGood P f c.n ops (pre.map (·.1)) i js post o) (hcov : ∀ i, i < ops.size → i ∈ plan.map (·.1)) {i : Nat} (h : Inv P f ops c cE E K plan D Lr listed a A w st) (hi : i ∈ Region.ready .any ops listed)
    {Q : Exit → Act → World → Prop} : wpOp P ops Q i (fun a' w' => ∃ cE' E' D' Lr' A' st', Inv P f ops c cE' E' K plan D' Lr' (listed.setIfInBounds i true) a' A' w' st') a w := by
  obtain ⟨hlt, hun, o, ho, hdeps⟩ := ready_spec.1 hi
  have hU := un_of_getD hun
  have hri : ∀ o', ops[i]? = some o' → ∀ e ∈ o'.after.toList, Region.binds .any e = true → ¬ Un listed e.on := by
    intro o' ho' e he hb
    have : o = o' := Option.some.inj (ho.symm.trans ho')
    subst this
    exact not_un_of_getD (hdeps e (by simpa using he) hb)
  have hdown : Down ops (listed.setIfInBounds i true) := by
    intro k ok hok hk e he hb hx
    rw [Un.set] at hx
    by_cases hki : k = i
    · subst hki; exact hri ok hok e he hb hx.1
    · exact h.down k ok hok (fun hu => hk (Un.set.2 ⟨hu, hki⟩)) e he hb hx.1
  have hinplan : i ∈ plan.map (·.1) := hcov i hlt
  have hearplan : ∀ {cE : Cx} {E : List (Nat × Nat)} {D Lr : List (Nat × List Nat)} {A : Act} {st : PS}, Inv P f ops c cE E K plan D Lr listed a A w st → ∀ j b, (j, b) ∈ E → j ∈ plan.map (·.1) ∧ i ≠ j := fun h j b hj => by
    obtain ⟨h1, h2⟩ := h.ear j b hj
    exact ⟨by rw [h.split, List.map_append, List.mem_append]; exact .inr h1, fun e => h2 (e ▸ hU)⟩
  
  have hkeep : ∀ {cE : Cx} {E : List (Nat × Nat)} {D Lr : List (Nat × List Nat)} {A : Act} {st : PS} (v : Value), Inv P f ops c cE E K plan D Lr listed a A w st → (i ∈ D.map (·.1) ∨ ∃ js L2, Lr = (i, js) :: L2) → Ah P ops c cE E (a.put o.dst v) := fun {cE E D Lr A st} v h hwh =>
    h.ah.act fun j b hj oj hoj _ => ⟨fun d hd => get_put fun e => dst_ne hg hinplan (hearplan h j b hj).1 (hearplan h j b hj).2 ho hoj e hd, fun t ht => get_put fun e => by
      obtain ⟨g1, g2⟩ := h.ear j b hj
      rcases hwh with hD | ⟨js, L2, rfl⟩
      · exact behind_looks hg h.down h.split hD g1 ho hoj hU g2 e ht
      · have g3 : j ∈ L2.map (·.1) := by
          simp only [List.map_cons, List.mem_cons] at g1
          exact g1.resolve_left fun e' => (hearplan h j b hj).2 e'.symm
        exact behind_looks hg h.down (l1 := D ++ [(i, js)]) (l2 := L2) (by rw [h.split]; simp) (by simp) g3 ho hoj hU g2 e ht⟩
  
  have wait : ∀ (cE : Cx) (E : List (Nat × Nat)) (D Lr : List (Nat × List Nat)) (A : Act) (st : PS), Inv P f ops c cE E K plan D Lr listed a A w st → i ∈ D.map (·.1) →
      wpOp P ops Q i (fun a' w' => ∃ cE' E' D' Lr' A' st', Inv P f ops c cE' E' K plan D' Lr' (listed.setIfInBounds i true) a' A' w' st') a w := by
    intro cE E D Lr A st h hD
    obtain ⟨y, hy1, hy2⟩ := List.mem_map.1 hD
    obtain ⟨pre, post, eD⟩ := List.append_of_mem hy1
    obtain ⟨oi, g⟩ := hg pre y.1 y.2 (post ++ Lr) (by rw [h.split, eD]; simp)
    rw [hy2] at g
    have : oi = o := Option.some.inj (g.at_.symm.trans ho)
    subst this
    have hnot : i ∉ pre.map (·.1) := g.fresh
    obtain ⟨⟨oq, hoq, hqi, _⟩, _⟩ := h.wait i hD hU
    obtain rfl : oq = oi := Option.some.inj (hoq.symm.trans ho)
    have hnf : floB ops oq = false := by
      cases hf : floB ops oq with
      | false => rfl
      | true =>
        have hx := (mayFlo_spec (floB_may hf)).2
        rw [hqi] at hx; simp at hx
    have look := look_exec (ops := ops) g.sel (a := a) (A := A) fun t ht => h.agree t (fun j hj hUj oj hoj hdj => by
      rw [eD] at hj
      simp only [List.map_append, List.map_cons, List.mem_append, List.mem_cons] at hj
      rcases hj with hj | hj | hj
      · obtain ⟨ok, h1, _, h3⟩ := g.pair j hj
        have : ok = oj := Option.some.inj (h1.symm.trans hoj)
        subst this
        rcases h3 with h3 | h3 | h3
        · exact h3.2.1 t hdj ht
        · exact reach_down h.down f i j hri h3 hUj
        · rw [hnf] at h3; simp at h3
      · rw [hy2] at hj; subst hj
        have : oj = oq := Option.some.inj (hoj.symm.trans ho)
        subst this
        exact g.self t hdj ht
      · obtain ⟨z, hz1, hz2⟩ := List.mem_map.1 hj
        obtain ⟨pre2, post2, e2⟩ := List.append_of_mem hz1
        obtain ⟨oz, gz⟩ := hg (pre ++ y :: pre2) z.1 z.2 (post2 ++ Lr) (by rw [h.split, eD, e2]; simp)
        rw [hz2] at gz
        have : oz = oj := Option.some.inj (gz.at_.symm.trans hoj)
        subst this
        obtain ⟨ok, h1, h2, _⟩ := gz.pair i (by simp [hy2])
        have : ok = oq := Option.some.inj (h1.symm.trans ho)
        subst this
        rcases (h2 t hdj).1 with hn | ⟨hr, hp, _⟩
        · exact hn ht
        · exact h.late (pre ++ y :: pre2) z post2 (by rw [eD, e2]; simp) (by rw [hz2]; exact hUj) i (by rw [hz2]; exact hr) hp hU) fun j b hj oj hoj hdj =>
      early_looks hg h.down h.split hD (h.ear j b hj).1 ho hoj hU (h.ear j b hj).2 hdj ht
    obtain ⟨o', v, ho', hv, hgv⟩ := (h.wait i hD hU).2
    have : o' = oq := Option.some.inj (ho'.symm.trans ho)
    subst this
    have fin : Inv P f ops c cE E K plan D Lr (listed.setIfInBounds i true) (a.put o'.dst v) A w st := by
      refine ⟨h.split, by simpa using h.size, hdown, fun x hx => ?_, fun j b hj => ⟨(h.ear j b hj).1, fun hx => (h.ear j b hj).2 (Un.set.1 hx).1⟩, fun j hj hUj => h.wait j hj (Un.set.1 hUj).1, by rw [defers_put]; exact h.defers, by rw [size_put]; exact h.tsize, fun t ht ht2 => ?_, h.rep, hkeep v h (.inl hD), h.walk, fun D1 x D2 e hx j hj hk hUj => h.late D1 x D2 e (Un.set.1 hx).1 j hj hk (Un.set.1 hUj).1⟩
      · rcases h.rest x hx with h1 | h1
        · refine .inl (Un.set.2 ⟨h1, fun e => ?_⟩)
          obtain ⟨pre2, post2, e2⟩ := List.append_of_mem hx
          obtain ⟨ox, gx⟩ := hg (D ++ pre2) x.1 x.2 post2 (by rw [h.split, e2]; simp)
          exact gx.fresh (by rw [e]; simp only [List.map_append, List.mem_append]; exact .inl hD)
        · exact .inr h1
      · by_cases hdt : o'.dst = some t
        · rw [hdt, get_put_self, hgv t hdt]
          rw [h.tsize]
          obtain ⟨ρ, hr⟩ := h.rep
          rw [hr.size, h.ah.n]; exact g.dst t hdt
        · rw [get_put hdt]
          exact h.agree t (fun j hj hUj oj hoj hdj => by
            by_cases hji : j = i
            · subst hji
              have : oj = o' := Option.some.inj (hoj.symm.trans ho)
              subst this; exact hdt hdj
            · exact ht j hj (Un.set.2 ⟨hUj, hji⟩) oj hoj hdj) ht2
    unfold wpOp
    simp only [ho]
    rcases hv with ⟨hw, hv⟩ | ⟨hw, rfl⟩
    · rw [look.2, if_pos hw]
      refine .inl ?_
      unfold Oper.wp
      rw [look.1, hv]
      exact ⟨cE, E, D, Lr, A, st, fin⟩
    · rw [look.2, if_neg (by simp [hw])]
      exact ⟨cE, E, D, Lr, A, st, fin⟩
  by_cases hD : i ∈ D.map (·.1)
  · exact wait cE E D Lr A st h hD
  · have hL : i ∈ Lr.map (·.1) := by
      have := hcov i hlt
      rw [h.split, List.map_append, List.mem_append] at this
      exact this.resolve_left hD
    obtain ⟨y, hy1, hy2⟩ := List.mem_map.1 hL
    obtain ⟨pre, post, eL⟩ := List.append_of_mem hy1
    obtain ⟨i', js⟩ := y
    simp only [] at hy2; subst hy2
    subst eL
    have hgi := hg (D ++ pre) i' js post (by rw [h.split]; simp)
    cases hf : floB ops o with
    | true =>
      
      obtain ⟨oi, g⟩ := hgi
      have : oi = o := Option.some.inj (g.at_.symm.trans ho)
      subst this
      obtain ⟨hgd, hnq⟩ := mayFlo_spec (floB_may hf)
      have hagr := flo_agree hg h hri ho hf
      obtain ⟨st', A', w', hR', hpd', hsim⟩ := sim_upto (L := oi.looksAt ops) pre st A w h.rep h.walk (fun k hk => by
        obtain ⟨y, hy1, hy2⟩ := List.mem_map.1 hk
        obtain ⟨pre2, pre3, e2⟩ := List.append_of_mem hy1
        obtain ⟨ok, gk⟩ := hg (D ++ pre2) y.1 y.2 (pre3 ++ (i', js) :: post) (by rw [h.split, e2]; simp)
        rw [hy2] at gk
        refine ⟨ok, gk.at_, by rw [h.ah.n]; exact gk.dst, fun t ht hdk => ?_⟩
        obtain ⟨ok', h1, _, h3⟩ := g.pair k (by rw [List.map_append, List.mem_append]; exact .inr hk)
        obtain rfl : ok' = ok := Option.some.inj (h1.symm.trans gk.at_)
        rcases h3 with h3 | h3 | h3
        · exact h3.2.1 t hdk ht
        · have hnk := reach_down h.down f i' k hri h3
          rcases h.rest y (by rw [e2]; simp) with hx | ⟨b, hb⟩
          · exact hnk (hy2 ▸ hx)
          · rw [hy2] at hb
            obtain ⟨_, o', _, _, _, _, _, ho', hf', _⟩ := h.ah.old k b hb
            obtain rfl : o' = ok' := Option.some.inj (ho'.symm.trans gk.at_)
            exact floB_slots hf ht ho' (floB_may hf') hdk
        · exact h3.2.2 t hdk ht)
      simp only [pD, ho] at hpd'
      have hpd' : pOp P oi (fun s => again P ops js s ∧ pD P ops K post s) st' := by
        have : pGuard ops st' oi (pOp P oi (fun s => again P ops js s ∧ pD P ops K post s) st') _ := hpd'
        unfold pGuard at this
        simpa only [hgd] using this
      obtain ⟨vs, te, mv, mp, hflo⟩ := floB_spec hf hR' hpd'
      have hall : ∀ t ∈ oi.looksAt ops, a.tmps[t]? = A'.tmps[t]? := fun t ht => (hagr t ht).trans (hsim t ht).symm
      have hlk := look_exec (ops := ops) g.sel (a := a) (A := A') hall
      have hw1 := hflo.run w
      rw [← hlk.1] at hw1
      obtain ⟨w1, ew1⟩ : ∃ w1 : World, w1 = { w with heap := w.heap.push (.cells vs te (0, 0)) } := ⟨_, rfl⟩
      have hheap : w1.heap = w.heap.push (.cells vs te (0, 0)) := by rw [ew1]
      have hsw : Sw w w1 := by rw [ew1]; exact ⟨rfl, rfl, rfl⟩
      rw [← ew1] at hw1
      have hR1 := R.early h.rep hheap
      obtain ⟨A2, hR3, hY, e1, e2, e3⟩ := revals hg h.split h.down (i := i') hL hri (c' := cE.plus w1 w.heap.size) h.ah.n hR1 (fun j hj hUj => (h.wait j hj hUj).1)
      have hsz : a.tmps.size = c.n := by
        obtain ⟨ρ, hr⟩ := h.rep
        rw [h.tsize, hr.size, h.ah.n]
      have hah := h.ah.add (A := A) h.rep ho (fun b hb => (h.ear i' b hb).2 hU) hf hflo (eval_of hall) g.self (fun d hd => by rw [hsz]; exact g.dst d hd) (fun j b hj oj hoj d hd => ⟨dst_ne hg hinplan (hearplan h j b hj).1 (hearplan h j b hj).2 ho hoj hd, fun hl => by
        obtain ⟨_, o', _, _, _, _, _, ho', hf', _⟩ := h.ah.old j b hj
        obtain rfl : o' = oj := Option.some.inj (ho'.symm.trans hoj)
        exact floB_slots hf' hl ho (floB_may hf) hd⟩) hheap hsw
      unfold wpOp
      simp only [ho]
      have hwt : Region.wanted oi (yielded ops a.tmps) = true := by unfold Region.wanted; rw [hgd]
      rw [if_pos hwt]
      refine .inl ?_
      unfold Oper.wp
      rw [hw1]
      refine ⟨_, _, D, pre ++ (i', js) :: post, A2, st, h.split, by simpa using h.size, hdown, fun x hx => ?_, fun j b hj => ?_, fun j hj hUj => ?_, by rw [e1, defers_put]; exact h.defers, by rw [e2, size_put]; exact h.tsize, fun t ht ht2 => ?_, hR3, hah, h.walk, fun D1 x D2 e hx j hj hk hUj => h.late D1 x D2 e (Un.set.1 hx).1 j hj hk (Un.set.1 hUj).1⟩
      · by_cases hxi : x.1 = i'
        · exact .inr ⟨w.heap.size, by rw [hxi]; exact List.mem_cons_self ..⟩
        · rcases h.rest x hx with h1 | ⟨b, h1⟩
          · exact .inl (Un.set.2 ⟨h1, hxi⟩)
          · exact .inr ⟨b, List.mem_cons_of_mem _ h1⟩
      · rcases List.mem_cons.1 hj with hj | hj
        · obtain ⟨rfl, _⟩ := Prod.mk.inj hj
          exact ⟨hL, fun hx => (Un.set.1 hx).2 rfl⟩
        · exact ⟨(h.ear j b hj).1, fun hx => (h.ear j b hj).2 (Un.set.1 hx).1⟩
      · exact ⟨(h.wait j hj (Un.set.1 hUj).1).1, hY j hj (Un.set.1 hUj).1⟩
      · have ht' : ∀ j ∈ D.map (·.1), Un listed j → ∀ oj, ops[j]? = some oj → oj.dst ≠ some t := fun j hj hUj oj hoj => ht j hj (Un.set.2 ⟨hUj, fun e => hD (e ▸ hj)⟩) oj hoj
        rw [e3 t ht', get_put (ht2 i' _ (List.mem_cons_self ..) oi ho)]
        exact h.agree t ht' fun j b hj => ht2 j b (List.mem_cons_of_mem _ hj)
    | false =>
    obtain ⟨cE1, E1, A1, st1, h1⟩ := Inv.upto hg hri (fun o' ho' => by rw [← Option.some.inj (ho.symm.trans ho')]; exact hf) pre D cE E A st h
    cases hq : quietOp o.op with
    | true =>
      obtain ⟨A2, st2, h2⟩ := Inv.absorb hg h1 hU (fun o' ho' => by rw [← Option.some.inj (ho.symm.trans ho')]; exact hq) (fun j hj _ => reach_down h1.down f i' j hri hj)
      exact wait _ _ _ _ _ _ h2 (by simp)
    | false =>
      obtain ⟨oi, g⟩ := hgi
      have : oi = o := Option.some.inj (g.at_.symm.trans ho)
      subst this
      have look := look_exec (ops := ops) g.sel (a := a) (A := A1) fun t ht => h1.agree t (fun j hj hUj oj hoj hdj => by
        obtain ⟨ok, e1, _, e3⟩ := g.pair j hj
        have : ok = oj := Option.some.inj (e1.symm.trans hoj)
        subst this
        rcases e3 with e3 | e3 | e3
        · exact e3.2.1 t hdj ht
        · exact reach_down h1.down f i' j hri e3 hUj
        · rw [hf] at e3; simp at e3) fun j b hj oj hoj hdj => by
          obtain ⟨g1, g2⟩ := h1.ear j b hj
          simp only [List.map_cons, List.mem_cons] at g1
          exact early_looks hg h1.down (l1 := (D ++ pre) ++ [(i', js)]) (l2 := post) (by rw [h1.split]; simp) (by simp) (g1.resolve_left fun e => g2 (e ▸ hU)) ho hoj hU g2 hdj ht
      have hw := h1.walk
      simp only [pD, ho] at hw
      have next : ∀ (st2 : PS) (u : Value) (w2 : World), (again P ops js st2 ∧ pD P ops K post st2) → R cE1 st2 (A1.put oi.dst u) w2 →
          ∃ cE' E' D' Lr' A' st', Inv P f ops c cE' E' K plan D' Lr' (listed.setIfInBounds i' true) (a.put oi.dst u) A' w2 st' := by
        intro st2 u w2 ⟨hag, hpd⟩ hR2
        have hUn : ∀ j ∈ (D ++ pre).map (·.1), Un listed j → ∃ oj, ops[j]? = some oj ∧ quietOp oj.op = true ∧ pOps P ops (stillAt oj.dst st2) [oj] st2 := by
          intro j hj hUj
          obtain ⟨ok, e1, _, e3⟩ := g.pair j hj
          rcases e3 with e3 | e3 | e3
          · rcases e3.2.2 with hx | hx
            · rw [hq] at hx; simp at hx
            · obtain ⟨o2, f4, f5⟩ := again_mem hag j hx
              obtain rfl : o2 = ok := Option.some.inj (f4.symm.trans e1)
              exact ⟨o2, e1, e3.1, f5⟩
          · exact absurd hUj (reach_down h1.down f i' j hri e3)
          · rw [hf] at e3; simp at e3
        obtain ⟨A2, hR3, hY, e1, e2, e3⟩ := revals hg h1.split h1.down (i := i') (by simp) hri (c' := cE1) h1.ah.n hR2 hUn
        refine ⟨cE1, E1, (D ++ pre) ++ [(i', js)], post, A2, st2, ⟨by rw [h1.split]; simp, by simpa using h1.size, hdown, fun x hx => ?_, fun j b hj => ?_, fun j hj hUj => ?_,
          by rw [e1, defers_put, defers_put]; exact h1.defers, by rw [e2, size_put, size_put]; exact h1.tsize, fun t ht ht2 => ?_, hR3, hkeep u h1 (.inr ⟨_, _, rfl⟩), hpd, fun D1 x D2 e hx j hj hk => ?_⟩⟩
        · rcases h1.rest x (List.mem_cons_of_mem _ hx) with h3 | h3
          · refine .inl (Un.set.2 ⟨h3, fun e => ?_⟩)
            obtain ⟨pre2, post2, q⟩ := List.append_of_mem hx
            obtain ⟨ox, gx⟩ := hg (D ++ pre ++ (i', js) :: pre2) x.1 x.2 post2 (by rw [h1.split, q]; simp)
            exact gx.fresh (by rw [e]; simp)
          · exact .inr h3
        · obtain ⟨g1, g2⟩ := h1.ear j b hj
          simp only [List.map_cons, List.mem_cons] at g1
          exact ⟨g1.resolve_left fun e => g2 (e ▸ hU), fun hx => g2 (Un.set.1 hx).1⟩
        · obtain ⟨hUj, hne⟩ := Un.set.1 hUj
          rw [List.map_append, List.mem_append] at hj
          rcases hj with hj | hj
          · exact ⟨hUn j hj hUj, hY j hj hUj⟩
          · simp at hj; exact absurd hj hne
        · have ht' : ∀ j ∈ (D ++ pre).map (·.1), Un listed j → ∀ oj, ops[j]? = some oj → oj.dst ≠ some t := fun j hj hUj oj hoj =>
            ht j (by rw [List.map_append, List.mem_append]; exact .inl hj) (Un.set.2 ⟨hUj, fun e => g.fresh (e ▸ hj)⟩) oj hoj
          rw [e3 t ht']
          by_cases hdt : oi.dst = some t
          · have hn : t < A1.tmps.size := by
              obtain ⟨ρ, hr⟩ := h1.rep
              rw [hr.size, h1.ah.n]; exact g.dst t hdt
            rw [hdt, get_put_self hn, get_put_self (by rw [h1.tsize]; exact hn)]
          · rw [get_put hdt, get_put hdt]; exact h1.agree t ht' ht2
        · rcases List.eq_nil_or_concat D2 with e0 | ⟨D3, y, e0⟩
          · subst e0
            have hx2 := (List.append_inj' e rfl).2
            simp only [List.cons.injEq, and_true] at hx2
            subst hx2
            exact absurd rfl (Un.set.1 hx).2
          · subst e0
            have hx2 := List.append_inj' (s₁ := D ++ pre) (s₂ := D1 ++ x :: D3) (t₁ := [(i', js)]) (t₂ := [y]) (by rw [e]; simp) rfl
            have hy := hx2.2
            simp only [List.cons.injEq, and_true] at hy
            subst hy
            exact fun hUj => h1.late D1 x D3 hx2.1 (Un.set.1 hx).1 j hj (by simpa using hk) (Un.set.1 hUj).1
      unfold wpOp
      simp only [ho]
      rcases guard_sound h1.rep hw with ⟨hwt, hrun⟩ | ⟨hwt, hskip⟩
      · rw [look.2, if_pos hwt]
        refine .inl (wp_shape look.1 (op_sound h1.rep (by rw [h1.ah.n]; exact g.dst) hrun) (fun u w2 hx => ?_) fun A' w2 hx => ?_)
        · obtain ⟨st2, hk, hR2⟩ := hx
          exact next st2 u w2 hk hR2
        · obtain ⟨st2, _, ρ, hr⟩ := hx
          exact hr.defers
      · rw [look.2, if_neg (by simp [hwt])]
        exact next _ undef w hskip (h1.rep.put (by rw [h1.ah.n]; exact g.dst) undef)

theorem ready_nil (hg : ∀ pre i js post, plan = pre ++ (i, js) :: post → ∃ o, OpGood P f c.n ops (pre.map (·.1)) i js post o) (hsz : listed.size = ops.size) (h : Region.ready .any ops listed = []) : ∀ x ∈ plan, ¬ Un listed x.1 := by
  have key : ∀ (post pre : List (Nat × List Nat)), plan = pre ++ post → (∀ x ∈ pre, ¬ Un listed x.1) → ∀ x ∈ plan, ¬ Un listed x.1 := by
    intro post
    induction post with
    | nil => intro pre e hp x hx; rw [e] at hx; exact hp x (by simpa using hx)
    | cons y post ih =>
      intro pre e hp
      refine ih (pre ++ [y]) (by rw [e]; simp) fun x hx => ?_
      rw [List.mem_append] at hx
      rcases hx with hx | hx
      · exact hp x hx
      · simp at hx; subst hx
        intro hU
        obtain ⟨o, g⟩ := hg pre x.1 x.2 post e
        have hlt : x.1 < ops.size := (Array.getElem?_eq_some_iff.1 g.at_).1
        have : x.1 ∈ Region.ready .any ops listed := ready_spec.2 ⟨hlt, by
            rw [Array.getD_eq_getD_getElem?, hU]; rfl, o, g.at_, fun e he hb => by
            have hmem := g.deps e (by simpa using he) hb
            obtain ⟨y, hy1, hy2⟩ := List.mem_map.1 hmem
            have hnu := hp y hy1
            rw [hy2] at hnu
            obtain ⟨o2, g2⟩ : ∃ o2, ops[e.on]? = some o2 := by
              obtain ⟨oj, h1, _⟩ := g.pair e.on hmem
              exact ⟨oj, h1⟩
            have hlt2 : e.on < listed.size := by rw [hsz]; exact (Array.getElem?_eq_some_iff.1 g2).1
            rw [Array.getD_eq_getD_getElem?]
            unfold Un at hnu
            have : listed[e.on]? = some listed[e.on] := by simp [hlt2]
            rw [this] at hnu ⊢
            cases hb2 : listed[e.on] with
            | true => rfl
            | false => rw [hb2] at hnu; simp at hnu⟩
        rw [h] at this; simp at this
  exact key plan [] rfl (by simp)

theorem Inv.fin (hg : ∀ pre i js post, plan = pre ++ (i, js) :: post → ∃ o, OpGood P f c.n ops (pre.map (·.1)) i js post o) (hall : ∀ x ∈ plan, ¬ Un listed x.1) :
    ∀ (Lr D : List (Nat × List Nat)) (cE : Cx) (E : List (Nat × Nat)) (A : Act) (st : PS), Inv P f ops c cE E K plan D Lr listed a A w st → ∃ st', K st' ∧ R c st' a w
  | [], D, cE, E, A, st, h => by
    have hE : E = [] := by
      cases E with
      | nil => rfl
      | cons x r => exact absurd (h.ear x.1 x.2 (List.mem_cons_self ..)).1 (by simp)
    subst hE
    have heq : a = A := by
      have ht : a.tmps = A.tmps := Array.ext_getElem? fun t => h.agree t (fun j hj hU => by
        obtain ⟨y, hy1, hy2⟩ := List.mem_map.1 hj
        rw [← hy2] at hU
        exact absurd hU (hall y (by rw [h.split]; simp [hy1]))) (fun j b hj => by simp at hj)
      have hd := h.defers
      cases a; cases A; simp_all
    exact ⟨st, h.walk, h.ah.end (heq ▸ h.rep)⟩
  | (i, js) :: Lr, D, cE, E, A, st, h => by
    rcases h.rest (i, js) (by simp) with h1 | ⟨b, hb⟩
    · exact absurd h1 (hall (i, js) (by rw [h.split]; simp))
    · obtain ⟨A', st', h'⟩ := Inv.adopt hg h hb
      exact Inv.fin hg hall Lr _ _ _ A' st' h'

theorem Inv.any (hg : ∀ pre i js post, plan = pre ++ (i, js) :: post → ∃ o, OpGood P f c.n ops (pre.map (·.1)) i js post o) (hcov : ∀ i, i < ops.size → i ∈ plan.map (·.1)) {Q : Exit → Act → World → Prop} (hQ : ∀ st a w, K st → R c st a w → Q .normal a w) :
    ∀ (fuel : Nat) (cE : Cx) (E : List (Nat × Nat)) (D Lr : List (Nat × List Nat)) (listed : Array Bool) (a A : Act) (w : World) (st : PS), listed.toList.count false ≤ fuel → Inv P f ops c cE E K plan D Lr listed a A w st → wpAny P .any ops Q fuel listed a w
  | 0, cE, E, D, Lr, listed, a, A, w, st, hf, h => by
    have hnone : ∀ i, ¬ Un listed i := by
      intro i hu
      unfold Un at hu
      have : false ∈ listed.toList := by
        rw [← Array.getElem?_toList] at hu
        exact List.mem_of_getElem? hu
      have := List.count_pos_iff.2 this
      omega
    have hr : Region.ready .any ops listed = [] := by
      cases hx : Region.ready .any ops listed with
      | nil => rfl
      | cons x r => exact absurd (un_of_getD (ready_spec.1 (hx ▸ List.mem_cons_self .. : x ∈ Region.ready .any ops listed)).2.1) (hnone x)
    obtain ⟨_, h1, h2⟩ := Inv.fin hg (fun x _ => hnone x.1) _ _ _ _ _ _ h
    exact ⟨hr, hQ _ _ _ h1 h2⟩
  | fuel + 1, cE, E, D, Lr, listed, a, A, w, st, hf, h => by
    refine ⟨fun hr => ?_, fun i hi => ?_⟩
    · obtain ⟨_, h1, h2⟩ := Inv.fin hg (ready_nil hg h.size hr) _ _ _ _ _ _ h
      exact hQ _ _ _ h1 h2
    · refine wpOp_mono ?_ (h.step hg hcov hi)
      rintro a' w' ⟨cE', E', D', Lr', A', st', h'⟩
      refine Inv.any hg hcov hQ fuel cE' E' D' Lr' _ a' A' w' st' ?_ h'
      have hU := un_of_getD (ready_spec.1 hi).2.1
      unfold Un at hU
      obtain ⟨hlt, hv⟩ := Array.getElem?_eq_some_iff.1 hU
      have : (listed.setIfInBounds i true).toList = listed.toList.set i true := by simp
      rw [this, List.count_set (by simpa using hlt)]
      have hpos : 0 < listed.toList.count false := List.count_pos_iff.2 (by
        rw [← Array.getElem?_toList] at hU
        exact List.mem_of_getElem? hU)
      have e2 : listed.toList.count false = Array.count false listed := by simp
      simp [hv]
      omega
end

end
end Go.Proofs.Ytfjdfnlkobeehaa
end

section
set_option linter.unusedVariables false
set_option linter.unusedSimpArgs false
namespace Go.Proofs.Ytfjdfnlkobeehaa

variable {P : Program}


def LW (P : Program) (c : Cx) (code : Code) (Q : Exit → PS → Prop) (st : PS) : Prop :=
  ∀ a w, R c st a w → code.wp P (fun e a w => ∃ st', Q e st' ∧ R c st' a w) a w

def seqQ (K : PS → Prop) (Q : Exit → PS → Prop) : Exit → PS → Prop
  | .normal, s => K s
  | e, s => Q e s

def blockQ (id : Nat) (Q : Exit → PS → Prop) : Exit → PS → Prop
  | .exit id', s => if id' = id then Q .normal s else Q (.exit id') s
  | e, s => Q e s

theorem LW.mono {c : Cx} {code : Code} {Q Q' : Exit → PS → Prop} {st : PS} (h : LW P c code Q st) (hq : ∀ e s, Q e s → Q' e s) : LW P c code Q' st :=
  fun a w hR => wp_mono (h a w hR) fun _ _ _ ⟨s, q, r⟩ => ⟨s, hq _ _ q, r⟩

theorem LW.seq {c : Cx} {x y : Code} {Q : Exit → PS → Prop} {st : PS} (h : LW P c x (seqQ (fun s => LW P c y Q s) Q) st) : LW P c (.seq x y) Q st := by
  intro a w hR
  refine wp_seq (wp_mono (h a w hR) ?_)
  rintro e a' w' ⟨s, q, r⟩
  cases e <;> simp only [seqQ] at q <;> simp only [Exit.then]
  · exact q a' w' r
  all_goals exact ⟨s, q, r⟩

theorem LW.skip {c : Cx} {Q : Exit → PS → Prop} {st : PS} (h : Q .normal st) : LW P c .skip Q st := fun a w hR => wp_skip ⟨st, h, hR⟩
theorem LW.label {c : Cx} {l : Nat} {Q : Exit → PS → Prop} {st : PS} (h : Q .normal st) : LW P c (.label l) Q st := fun a w hR => wp_label ⟨st, h, hR⟩
theorem LW.exit {c : Cx} {id : Nat} {Q : Exit → PS → Prop} {st : PS} (h : Q (.exit id) st) : LW P c (.exit id) Q st := fun a w hR => wp_exit ⟨st, h, hR⟩
theorem LW.ret {c : Cx} {Q : Exit → PS → Prop} {st : PS} (h : Q .ret st) : LW P c .ret Q st := fun a w hR => wp_ret ⟨st, h, hR⟩


def condC (p : PV) (x y : Prop) : Prop := ∃ b, p = .val (.bool b) ∧ ((b = true → x) ∧ (b = false → y))

theorem LW.cond {c : Cx} {x : Operand} {t e : Code} {Q : Exit → PS → Prop} {st : PS} (h : condC (st.ev x) (LW P c t Q st) (LW P c e Q st)) : LW P c (.cond x t e) Q st := by
  intro a w hR
  obtain ⟨b, hb, h1, h2⟩ := h
  obtain ⟨ρ, hr⟩ := hR
  have := hr.ev x
  rw [hb] at this
  simp only [Rep] at this
  exact wp_cond_split this (fun hb => h1 hb a w ⟨ρ, hr⟩) (fun hb => h2 hb a w ⟨ρ, hr⟩)

theorem LW.block {c : Cx} {id : Nat} {x : Code} {Q : Exit → PS → Prop} {st : PS} (h : LW P c x (blockQ id Q) st) : LW P c (.block id x) Q st := by
  intro a w hR
  refine wp_block (wp_mono (h a w hR) ?_)
  rintro e a' w' ⟨s, q, r⟩
  cases e <;> simp only [blockQ] at q <;> simp only [Exit.inBlock]
  case exit id' =>
    split at q
    · rename_i hid; rw [if_pos hid]; exact ⟨s, q, r⟩
    · rename_i hid; rw [if_neg hid]; exact ⟨s, q, r⟩
  all_goals exact ⟨s, q, r⟩


def scopeQ (Q : Exit → PS → Prop) : Exit → PS → Prop
  | .goto _, _ => False
  | e, s => Q e s
theorem LW.scope {c : Cx} {x : Code} {Q : Exit → PS → Prop} {st : PS} (h : LW P c x (scopeQ Q) st) : LW P c (.scope x) Q st := by
  intro a w hR
  refine wp_scope_straight (wp_mono (h a w hR) ?_)
  rintro e a' w' ⟨s, q, r⟩
  cases e <;> simp only [scopeQ] at q <;> simp only [Exit.noGoto]
  all_goals exact ⟨s, q, r⟩


theorem LW.loop {c : Cx} {x : Code} {Q : Exit → PS → Prop} {st : PS} (I : PS → Prop) (μ : PS → Nat) (h0 : I st)
    (h : ∀ s, I s → LW P c x (seqQ (fun s' => I s' ∧ μ s' < μ s) Q) s) : LW P c (.loop x) Q st := by
  intro a w hR
  intro b k cs
  have key : ∀ n (s : PS) a w, μ s = n → I s → R c s a w →
      ∃ e a' w', (∃ st', Q e st' ∧ R c st' a' w') ∧ Arrives P (lone (b.at a (.code x :: .inLoop x :: k)) cs w) b k cs e a' w' := by
    intro n
    induction n using Nat.strongRecOn with
    | _ n ih =>
      intro s a w hn hI hR
      obtain ⟨e, a₁, w₁, ⟨s₁, hq, hR₁⟩, harr⟩ := h s hI a w hR b (.inLoop x :: k) cs
      cases e with
      | normal =>
        obtain ⟨hI₁, hlt⟩ := hq
        obtain ⟨e₂, a₂, w₂, hq₂, harr₂⟩ := ih (μ s₁) (hn ▸ hlt) s₁ a₁ w₁ rfl hI₁ hR₁
        exact ⟨e₂, a₂, w₂, hq₂, .of_steps (Steps.trans harr (.one step_inLoop)) harr₂⟩
      | exit id => exact ⟨_, a₁, w₁, ⟨s₁, hq, hR₁⟩, .pass (x := .inLoop x) rfl (fun _ _ => .inl (by simp)) harr⟩
      | goto l => exact ⟨_, a₁, w₁, ⟨s₁, hq, hR₁⟩, .pass (x := .inLoop x) rfl (fun _ _ => .inl (by simp)) harr⟩
      | ret => exact ⟨_, a₁, w₁, ⟨s₁, hq, hR₁⟩, .pass (x := .inLoop x) rfl (fun _ _ => .inl (by simp)) harr⟩
      | panic ch => exact ⟨_, a₁, w₁, ⟨s₁, hq, hR₁⟩, .pass (x := .inLoop x) rfl (fun _ _ => .inl (by simp)) harr⟩
      | outgrown => exact ⟨_, a₁, w₁, ⟨s₁, hq, hR₁⟩, .pass (x := .inLoop x) rfl (fun _ _ => .inl (by simp)) harr⟩
  obtain ⟨e, a', w', hq, harr⟩ := key _ st a w rfl h0 hR
  exact ⟨e, a', w', hq, .of_steps (.one step_loop) harr⟩

theorem dstOK_spec {n : Nat} {ops : Array Oper} (h : dstOK n ops.toList = true) : ∀ (i : Nat) (o : Oper), ops[i]? = some o → ∀ x, o.dst = some x → x < n := by
  intro i o ho x hx
  have := List.all_eq_true.1 h o (by
    have := Array.mem_of_getElem? ho
    exact Array.mem_toList_iff.2 this)
  simpa [hx] using this

theorem LW.region {c : Cx} {id : Nat} {ops : Array Oper} {Q : Exit → PS → Prop} {st : PS} (hd : dstOK c.n ops.toList = true) (h : pOps P ops (Q .normal) ops.toList st) : LW P c (.region id ops false) Q st := by
  intro a w hR
  refine wp_region (pOps_sound (K := Q .normal) (fun s a w hK hR => ⟨s, hK, hR⟩) _ (fun i _ o ho => dstOK_spec hd i o ho) st a w hR ?_)
  have : (List.range ops.size).filterMap (ops[·]?) = ops.toList := by
    apply List.ext_getElem?
    intro i
    have key : ∀ (l : List Nat) (i : Nat), (∀ j ∈ l, j < ops.size) → (l.filterMap (ops[·]?))[i]? = (l.map fun j => ops[j]?)[i]?.join := by
      intro l
      induction l with
      | nil => intro i _; simp
      | cons j l ih =>
        intro i hl
        have hj := hl j (List.mem_cons_self ..)
        have : ops[j]? = some ops[j] := by simp [hj]
        rw [List.filterMap_cons_some this]
        cases i with
        | zero => simp [this]
        | succ i => simpa using ih i (fun k hk => hl k (List.mem_cons_of_mem _ hk))
    rw [key _ i (by simp)]
    simp only [List.getElem?_map, List.getElem?_range, Array.getElem?_toList]
    by_cases hi : i < ops.size
    · simp [hi]
    · simp [hi]
  rw [this]; exact h


theorem LW.draw {c : Cx} {n id : Nat} {ops : Array Oper} {Q : Exit → PS → Prop} {st : PS} (hm : P.follows .mixedOrders = true) (hn : c.n = n) {rc : Nat → Nat → Bool} {f : Nat} (hrc : ∀ i j, rc i j = true → reach ops f i j = true) (plan : List (Nat × List Nat)) (hk : planOK P rc n ops plan = true)
    (h : pD P ops (Q .normal) plan st) : LW P c (.region id ops true) Q st := by
  intro a w hR
  simp only [planOK, Bool.and_eq_true] at hk
  have hg : ∀ pre i js post, plan = pre ++ (i, js) :: post → ∃ o, OpGood P f c.n ops (pre.map (·.1)) i js post o := fun pre i js post e => by
    have := goOK_spec hrc plan [] hk.1 pre i js post e
    rw [hn]; simpa using this
  have hcov : ∀ i, i < ops.size → i ∈ plan.map (·.1) := fun i hi => by
    have := List.all_eq_true.1 hk.2 i (List.mem_range.2 hi)
    simpa using this
  refine wp_region_any hm (Inv.any (c := c) (K := Q .normal) (f := f) (plan := plan) hg hcov (fun st a w h1 h2 => ⟨st, h1, h2⟩) ops.size c [] [] plan _ a a _ st ?_ ⟨rfl, by simp, ?_, fun x hx => .inl ?_, fun j b hj => by simp at hj, by simp, rfl, rfl, fun _ _ _ => rfl, hR.heap rfl, (by obtain ⟨ρ, hr⟩ := hR; exact Ah.none hr.fF hr.fA), h, fun D1 x D2 e => by simp at e⟩)
  · simp [List.count_replicate]
  · intro i o ho hi
    refine absurd ?_ hi
    unfold Un
    have := (Array.getElem?_eq_some_iff.1 ho).1
    simp [this]
  · obtain ⟨pre, post, e⟩ := List.append_of_mem hx
    obtain ⟨o, g⟩ := hg pre x.1 x.2 post (by rw [e])
    have := (Array.getElem?_eq_some_iff.1 g.at_).1
    unfold Un
    simp [this]


def planAt : List (Nat × List (Nat × List Nat)) → Nat → List (Nat × List Nat)
  | [], _ => []
  | (i, p) :: r, j => if i = j then p else planAt r j


def pw (P : Program) (c : Cx) : Code → (Exit → PS → Prop) → PS → Prop
  | .skip, Q, st => Q .normal st
  | .label _, Q, st => Q .normal st
  | .region id ops draw, Q, st => if draw then pD P ops (Q .normal) (planAt c.tb id) st else pOps P ops (Q .normal) ops.toList st
  | .seq x y, Q, st => pw P c x (seqQ (pw P c y Q) Q) st
  | .cond x t e, Q, st => condC (st.ev x) (pw P c t Q st) (pw P c e Q st)
  | .block id x, Q, st => pw P c x (blockQ id Q) st
  | .loop x, Q, st => LW P c (.loop x) Q st
  | .exit id, Q, st => Q (.exit id) st
  | .ret, Q, st => Q .ret st
  | .scope x, Q, st => pw P c x (scopeQ Q) st
  | _, _, _ => False


def codeOK (P : Program) (n : Nat) (tb : List (Nat × List (Nat × List Nat))) : Code → Bool
  | .region id ops draw => if draw then P.follows .mixedOrders && planB P n ops ((planAt tb (id + 1000000)).map (·.1)) (planAt tb id) else dstOK n ops.toList
  | .seq x y => codeOK P n tb x && codeOK P n tb y
  | .cond _ x y => codeOK P n tb x && codeOK P n tb y
  | .block _ x => codeOK P n tb x
  | .scope x => codeOK P n tb x
  | _ => true

theorem pw_sound {c : Cx} : ∀ (code : Code) (Q : Exit → PS → Prop) (st : PS), codeOK P c.n c.tb code = true → pw P c code Q st → LW P c code Q st
  | .skip, Q, st, _, h => LW.skip h
  | .label _, Q, st, _, h => LW.label h
  | .region id ops draw, Q, st, hk, h => by
    cases draw with
    | true =>
      simp only [codeOK, if_true, Bool.and_eq_true] at hk
      obtain ⟨rc, f, hrc, hk2⟩ := planB_spec hk.2
      exact LW.draw hk.1 rfl hrc _ hk2 h
    | false => exact LW.region (by simpa [codeOK] using hk) h
  | .seq x y, Q, st, hk, h => by
    simp only [codeOK, Bool.and_eq_true] at hk
    refine LW.seq (LW.mono (pw_sound x _ st hk.1 h) ?_)
    intro e s
    cases e <;> simp only [seqQ]
    · exact pw_sound y Q s hk.2
    all_goals exact fun h => h
  | .cond x t e, Q, st, hk, h => by
    simp only [codeOK, Bool.and_eq_true] at hk
    obtain ⟨b, hb, h1, h2⟩ := h
    exact LW.cond ⟨b, hb, fun hb => pw_sound t Q st hk.1 (h1 hb), fun hb => pw_sound e Q st hk.2 (h2 hb)⟩
  | .block id x, Q, st, hk, h => LW.block (pw_sound x _ st (by simpa only [codeOK] using hk) h)
  | .loop x, Q, st, _, h => h
  | .exit id, Q, st, _, h => LW.exit h
  | .ret, Q, st, _, h => LW.ret h
  | .rangeFunc .., _, _, _, h => h.elim
  | .scope x, Q, st, hk, h => LW.scope (pw_sound x _ st (by simpa only [codeOK] using hk) h)
  | .goto _, _, _, _, h => h.elim
  | .refuse _, _, _, _, h => h.elim


theorem LW.walk {c : Cx} {n : Nat} {code : Code} {Q : Exit → PS → Prop} {st : PS} {tb : List (Nat × List (Nat × List Nat))} (hn : c.n = n) (ht : c.tb = tb) (hk : codeOK P n tb code = true) (h : pw P c code Q st) : LW P c code Q st :=
  pw_sound code Q st (by rw [hn, ht]; exact hk) h


def Gh (st st' : PS) : Prop := ∀ c a w, R c st a w → R c st' a w

theorem LW.ghost {c : Cx} {code : Code} {Q : Exit → PS → Prop} {st st' : PS} (hg : Gh st st') (h : LW P c code Q st') : LW P c code Q st :=
  fun a w hR => h a w (hg _ _ _ hR)


def resP (P : Program) (st : PS) : List ResultVar → Option (List PV)
  | [] => some []
  | .tmp t :: rs => (resP P st rs).map (st.sl t :: ·)
  | .cell t ty :: rs => match sizeT P ty with
    | some n => if aggT P ty || oneT P ty then
        (match ldP (aggT P ty) n st.H (st.sl t), resP P st rs with
        | some p, some ps => some (p :: ps)
        | _, _ => none) else none
    | none => none

def tupP : List PV → PV
  | [p] => p
  | ps => .tup ps


def endQ (P : Program) (rs : List ResultVar) (Q : PV → (Nat → Option (List PV)) → Nat → Prop) : Exit → PS → Prop
  | .normal, st | .ret, st => ∃ ps, resP P st rs = some ps ∧ ghK (fun r s => Q r s.H s.nx) (tupP ps) st
  | _, _ => False

theorem OwnOK.dropIt {F F' A0 : Nat → Prop} {w : World} {ρ : Nat → Nat} {H : Nat → Option (List PV)} {it : Nat → Option (ByteArray × Nat)} {nx : Nat}
    (h : OwnOK F A0 w ρ H it nx) (hF : ∀ b, F' b → F b) : OwnOK F' A0 w ρ H (fun _ => none) nx ∧ En.le (enOf A0 w ρ H it nx) (enOf A0 w ρ H (fun _ => none) nx) := by
  have hl : ∀ i, Live H (fun _ => none) i → Live H it i := by
    rintro i (hl | hi)
    · exact .inl hl
    · simp at hi
  have hle : En.le (enOf A0 w ρ H it nx) (enOf A0 w ρ H (fun _ => none) nx) :=
    ⟨fun _ _ _ _ hv => hv, fun b _ _ hA _ hA' => hA (hA'.imp id fun ⟨i, hi, e⟩ => ⟨i, hl i hi, e⟩), Nat.le_refl _, fun _ _ => rfl⟩
  refine ⟨⟨fun i hi => h.bound i (by rcases hi with hi | hi; exact .inl hi; simp at hi), fun _ _ _ _ => rfl, fun i j hi hj he => h.inj i j (hl i hi) (hl j hj) he,
    fun i cs hc hne => ?_, fun i s p hi => by simp at hi, fun i hi => ⟨fun hF' => (h.out i (hl i hi)).1 (hF _ hF'), (h.out i (hl i hi)).2⟩⟩, hle⟩
  obtain ⟨vs, e, hb, hr⟩ := h.blk i cs hc hne
  exact ⟨vs, e, hb, RepL.mono hle _ _ hr⟩

theorem resP_sound {c : Cx} {st : PS} {a : Act} {w : World} {ρ : Nat → Nat} (h : Rr c st a w ρ) : ∀ (rs : List ResultVar) (ps : List PV), resP P st rs = some ps →
    ∃ vs, (rs.mapM fun r => (match r with | .tmp t => pure (a.tmps.getD t undef) | .cell t ty => do loadVar ty (← asAddr (a.tmps.getD t undef)) : Sem Value)).run P w = .ok vs w ∧ RepL (enOf c.A0 w ρ st.H st.it st.nx) ps vs
  | [], ps, hp => by simp [resP] at hp; subst hp; exact ⟨[], by simp, by simp [RepL]⟩
  | .tmp t :: rs, ps, hp => by
    simp only [resP, Option.map_eq_some_iff] at hp
    obtain ⟨qs, hq, rfl⟩ := hp
    obtain ⟨vs, hv, hr⟩ := resP_sound h rs qs hq
    exact ⟨a.tmps.getD t undef :: vs, by rw [List.mapM_cons]; simp only [Sem.run_bind, Sem.run_pure, Result.andThen_ok, hv], by simp only [RepL]; exact ⟨h.slots t, hr⟩⟩
  | .cell t ty :: rs, ps, hp => by
    simp only [resP] at hp
    cases hs : sizeT P ty with
    | none => simp [hs] at hp
    | some n =>
      simp only [hs] at hp
      split at hp
      · rename_i ha
        split at hp
        · rename_i p qs hl hq
          simp at hp; subst hp
          obtain ⟨vs, hv, hr⟩ := resP_sound h rs qs hq
          obtain ⟨u, hu, hru⟩ := ldP_sound h hs ha (h.slots t) hl
          have hu' : (do loadVar ty (← asAddr (a.tmps.getD t undef)) : Sem Value).run P w = .ok u w := by
            generalize a.tmps.getD t undef = v at hu
            cases v with
            | pointer b =>
              cases b with
              | none => simp [Instr.loadAt, Instr.sureAddr] at hu
              | some b => simpa [Instr.loadAt, Instr.sureAddr, asAddr] using hu
            | _ => simp [Instr.loadAt, Instr.sureAddr] at hu
          exact ⟨u :: vs, by rw [List.mapM_cons]; simp only [Sem.run_bind] at hu' ⊢; rw [hu']; simp only [Result.andThen_ok, Sem.run_pure, hv], by simp only [RepL]; exact ⟨hru, hr⟩⟩
        · simp at hp
      · simp at hp


theorem results_sound {c : Cx} {st : PS} {a : Act} {w : World} {ρ : Nat → Nat} (h : Rr c st a w ρ) {fn : Func} {ps : List PV} (hp : resP P st fn.results.toList = some ps) :
    ∃ v, (results fn a.tmps).run P w = .ok v w ∧ Rep (enOf c.A0 w ρ st.H st.it st.nx) (tupP ps) v := by
  obtain ⟨vs, hv, hr⟩ := resP_sound h _ _ hp
  have hrun : (fn.results.mapM fun r => (match r with | .tmp t => pure (a.tmps.getD t undef) | .cell t ty => do loadVar ty (← asAddr (a.tmps.getD t undef)) : Sem Value)).run P w = .ok vs.toArray w := by
    rw [Array.mapM_eq_mapM_toList, Sem.run_map, hv]; rfl
  refine ⟨if h : vs.toArray.size = 1 then vs.toArray[0] else .tuple vs.toArray, ?_, ?_⟩
  · unfold results
    rw [Sem.run_bind]
    exact congrArg (fun r : Result (Array Value) => r.andThen fun a w' => (pure (if h : a.size = 1 then a[0] else .tuple a) : Sem Value).run P w') hrun
  · have hl := RepL.length hr
    cases ps with
    | nil => cases vs <;> simp [RepL] at hr; exact ⟨[], by simp, by simp [RepL]⟩
    | cons p ps =>
      cases ps with
      | nil =>
        cases vs with
        | nil => simp [RepL] at hr
        | cons v vs =>
          cases vs with
          | nil => simp only [RepL] at hr; simpa [tupP] using hr.1
          | cons u us => simp [RepL] at hr
      | cons q qs =>
        cases vs with
        | nil => simp at hl
        | cons v vs =>
          cases vs with
          | nil => simp at hl
          | cons u us =>
            simp only [tupP, Rep]
            exact ⟨v :: u :: us, by simp, hr⟩


def begP (args : List PV) (H : Nat → Option (List PV)) (nx : Nat) : PS :=
  { sl := fun t => args.getD t (.val undef), H := H, it := fun _ => none, nx := nx }


theorem PCalls.enter {f : FuncId} {fn : Func} {code : Code} {n : Nat} {rs : List ResultVar} {args : List PV} {H : Nat → Option (List PV)} {nx : Nat} {Q : PV → (Nat → Option (List PV)) → Nat → Prop}
    (hf : P.funcs[f]? = some fn) (hb : fn.body = some code) (hnt : fn.ntmps = n) (hrs : fn.results.toList = rs) {tb : List (Nat × List (Nat × List Nat))} (hn : okFn P f = true) (hk : codeOK P n tb code = true) (hlen : args.length ≤ n)
    (h : ∀ c : Cx, c.n = n → c.tb = tb → pw P c code (endQ P rs Q) (begP args H nx)) : PCalls P f args H nx Q := by
  subst hnt; subst hrs
  refine ⟨hn, fun w vs ρ A0 hA0 hown hargs => ?_⟩
  refine calls_of_wp hf hb ?_
  let c : Cx := { F := fun b => b < w.heap.size ∧ ¬ OwnB ρ H (fun _ => none) b, w0 := w, A0 := A0, ρ0 := ρ, k := nx, n := fn.ntmps, tb := tb }
  have hl := RepL.length hargs
  have hR : Rr c (begP args H nx) { tmps := vs.toArray ++ Array.replicate (fn.ntmps - vs.toArray.size) undef, defers := [] } w ρ := by
    refine ⟨⟨hown.bound, hown.excl, hown.inj, hown.blk, hown.itb, fun i hi => ⟨fun hF => hF.2 ⟨i, hi, rfl⟩, (hown.out i hi).2⟩⟩, fun t => ?_, by simp [c]; omega, rfl, fun b _ => rfl, Nat.le_refl _, Nat.le_refl _, fun i _ => rfl, fun b hb => hb.1, hA0, Sw.refl w⟩
    simp only [begP]
    rcases Nat.lt_or_ge t args.length with ht | ht
    · obtain ⟨v, hv, hr⟩ := RepL.get hargs t args[t] (by simp [ht])
      have e1 : args.getD t (.val undef) = args[t] := by simp [ht]
      have e2 : (vs.toArray ++ Array.replicate (fn.ntmps - vs.toArray.size) undef).getD t undef = v := by
        rw [Array.getD_eq_getD_getElem?, Array.getElem?_append_left (by simp; omega)]
        simp [hv]
      rw [e1, e2]; exact hr
    · have e1 : args.getD t (.val undef) = .val undef := by simp [List.getElem?_eq_none ht]
      have e2 : (vs.toArray ++ Array.replicate (fn.ntmps - vs.toArray.size) undef).getD t undef = undef := by
        rw [Array.getD_eq_getD_getElem?, Array.getElem?_append_right (by simp; omega)]
        simp only [Array.getElem?_replicate]
        split <;> rfl
      rw [e1, e2]; simp [Rep]
  refine wp_mono (LW.walk (c := c) rfl rfl hk (h c rfl rfl) _ w ⟨ρ, hR⟩) ?_
  have fin : ∀ st a w', (∃ ps, resP P st fn.results.toList = some ps ∧ ghK (fun r s => Q r s.H s.nx) (tupP ps) st) → R c st a w' →
      a.defers = [] ∧ ∃ v, (results fn a.tmps).run P w' = .ok v w' ∧ ∃ v_1 r H' nx' ρ', Ending.returned v = .returned v_1 ∧ Q r H' nx' ∧ nx ≤ nx' ∧ (∀ i, i < nx → ρ' i = ρ i) ∧
      OwnOK (fun b => b < w.heap.size ∧ ¬ OwnB ρ H (fun _ => none) b) A0 w' ρ' H' (fun _ => none) nx' ∧ Rep (enOf A0 w' ρ' H' (fun _ => none) nx') r v_1 ∧
      (∀ b, b < w.heap.size → ¬ OwnB ρ H (fun _ => none) b → w'.heap[b]? = w.heap[b]?) ∧ w.heap.size ≤ w'.heap.size ∧ Sw w w' := by
    rintro st a w' ⟨ps, hps, r1, st1, hg, hQ⟩ ⟨ρ0, hR'⟩
    obtain ⟨v, hv, hrep⟩ := results_sound hR' hps
    obtain ⟨ρ', hr, hrep⟩ := hg c a w' v ⟨ρ0, hR', hrep⟩
    obtain ⟨ho, hle⟩ := hr.own.dropIt (fun b hb => hb)
    exact ⟨hR'.defers, v, hv, v, _, _, _, ρ', rfl, hQ, hr.ids, hr.ρk, ho, Rep.mono hle _ _ hrep, fun b h1 h2 => hr.frame b ⟨h1, h2⟩, hr.grow, hr.sw⟩
  rintro e a w' ⟨st, hq, hR'⟩
  cases e with
  | normal => exact fin st a w' hq hR'
  | ret => exact fin st a w' hq hR'
  | exit id => exact hq.elim
  | goto l => exact hq.elim
  | panic ch => exact hq.elim
  | outgrown => exact hq.elim


theorem LW.both {A B : Prop} {c : Cx} {code : Code} {Q : Exit → PS → Prop} {st1 st2 : PS} (I : PS → Prop) (h1 : A → I st1) (h2 : B → I st2) (h : ∀ s, I s → LW P c code Q s) : (A → LW P c code Q st1) ∧ (B → LW P c code Q st2) :=
  ⟨fun a => h _ (h1 a), fun b => h _ (h2 b)⟩


theorem LW.loopW {c : Cx} {n : Nat} {x : Code} {Q : Exit → PS → Prop} {st : PS} {tb : List (Nat × List (Nat × List Nat))} (hn : c.n = n) (ht : c.tb = tb) (hk : codeOK P n tb x = true) (I : PS → Prop) (μ : PS → Nat) (h0 : I st)
    (h : ∀ s, I s → pw P c x (seqQ (fun s' => I s' ∧ μ s' < μ s) Q) s) : LW P c (.loop x) Q st :=
  LW.loop I μ h0 fun s hs => LW.walk hn ht hk (h s hs)

end Go.Proofs.Ytfjdfnlkobeehaa
end

section
set_option linter.unusedVariables false
set_option linter.unusedSimpArgs false
namespace Go.Proofs.Ytfjdfnlkobeehaa

variable {P : Program}


def obind {α : Type} (o : Option α) (k : α → Prop) : Prop := ∃ p, o = some p ∧ k p
@[congr] theorem obind_congr {α : Type} {o o' : Option α} {k : α → Prop} (h : o = o') : obind o k = obind o' k := by rw [h]
theorem obind_some {α : Type} (x : α) (k : α → Prop) : obind (some x) k = k x := by simp [obind]
theorem obind_none {α : Type} (k : α → Prop) : obind none k = False := by simp [obind]
theorem obind_map {α β : Type} (f : α → β) (o : Option α) (k : β → Prop) : obind (o.map f) k = obind o (fun x => k (f x)) := by
  cases o <;> simp [obind]
theorem obind_bind {α β : Type} (f : α → Option β) (o : Option α) (k : β → Prop) : obind (o.bind f) k = obind o (fun x => obind (f x) k) := by
  cases o <;> simp [obind]
theorem obind_ite {α : Type} (c : Prop) [Decidable c] (o : Option α) (k : α → Prop) : obind (if c then o else none) k = (c ∧ obind o k) := by
  by_cases h : c <;> simp [obind, h]
attribute [go_sem] obind_some obind_none obind_map obind_bind obind_ite

@[congr] theorem LW_congr {c : Cx} {code : Code} {Q : Exit → PS → Prop} {st st' : PS} (h : st = st') : LW P c code Q st = LW P c code Q st' := by rw [h]
@[congr] theorem condC_congr {p p' : PV} {x y : Prop} (h : p = p') : condC p x y = condC p' x y := by rw [h]
@[congr] theorem pw_congr {c : Cx} {code : Code} {Q : Exit → PS → Prop} {st st' : PS} (h : st = st') : pw P c code Q st = pw P c code Q st' := by rw [h]
@[congr] theorem pOps_congr {ops : Array Oper} {K : PS → Prop} {l : List Oper} {st st' : PS} (h : st = st') : pOps P ops K l st = pOps P ops K l st' := by rw [h]
@[congr] theorem callP_congr {f : FuncId} {as as' : List PV} {st st' : PS} {K : PV → PS → Prop} (h : as = as') (h' : st = st') : callP P f as st K = callP P f as' st' K := by rw [h, h']
@[congr] theorem callM_congr {f : FuncId} {as as' : List PV} {st st' : PS} {K : PV → PS → Prop} (h : as = as') (h' : st = st') : callM P f as st K = callM P f as' st' K := by rw [h, h']
@[congr] theorem pCall_congr {f : FuncId} {as as' : List PV} {st st' : PS} {K : PV → PS → Prop} (h : as = as') (h' : st = st') : pCall P f as st K = pCall P f as' st' K := by rw [h, h']

section
variable {c : Cx} {Q : Exit → PS → Prop} {st : PS}
theorem pw_scope (x : Code) : pw P c (.scope x) Q st = pw P c x (scopeQ Q) st := rfl
theorem scopeQ_normal (s : PS) : scopeQ Q .normal s = Q .normal s := rfl
theorem scopeQ_exit (i : Nat) (s : PS) : scopeQ Q (.exit i) s = Q (.exit i) s := rfl
theorem scopeQ_ret (s : PS) : scopeQ Q .ret s = Q .ret s := rfl
theorem pw_skip : pw P c .skip Q st = Q .normal st := rfl
theorem pw_label (l : Nat) : pw P c (.label l) Q st = Q .normal st := rfl
theorem pw_exit (i : Nat) : pw P c (.exit i) Q st = Q (.exit i) st := rfl
theorem pw_ret : pw P c .ret Q st = Q .ret st := rfl
theorem pw_seq (x y : Code) : pw P c (.seq x y) Q st = pw P c x (seqQ (pw P c y Q) Q) st := rfl
theorem pw_cond (o : Operand) (x y : Code) : pw P c (.cond o x y) Q st = condC (st.ev o) (pw P c x Q st) (pw P c y Q st) := rfl
theorem pw_block (i : Nat) (x : Code) : pw P c (.block i x) Q st = pw P c x (blockQ i Q) st := rfl
theorem pw_loop (x : Code) : pw P c (.loop x) Q st = LW P c (.loop x) Q st := rfl
theorem pw_draw (i : Nat) (ops : Array Oper) : pw P c (.region i ops true) Q st = pD P ops (Q .normal) (planAt c.tb i) st := rfl
theorem pw_region (i : Nat) (l : List Oper) : pw P c (.region i l.toArray false) Q st = pOps P l.toArray (Q .normal) l st := by
  simp [pw]
end
attribute [go_sem ↓] pw_scope scopeQ_normal scopeQ_exit scopeQ_ret
attribute [go_sem ↓] pw_skip pw_label pw_exit pw_ret pw_seq pw_cond pw_block pw_loop pw_draw pw_region

section
variable {K : PS → Prop} {Q : Exit → PS → Prop} {s : PS}
theorem seqQ_normal : seqQ K Q .normal s = K s := rfl
theorem seqQ_exit (i : Nat) : seqQ K Q (.exit i) s = Q (.exit i) s := rfl
theorem seqQ_ret : seqQ K Q .ret s = Q .ret s := rfl
theorem blockQ_normal (i : Nat) : blockQ i Q .normal s = Q .normal s := rfl
theorem blockQ_ret (i : Nat) : blockQ i Q .ret s = Q .ret s := rfl
theorem blockQ_exit (i j : Nat) : blockQ i Q (.exit j) s = if j = i then Q .normal s else Q (.exit j) s := rfl
end
attribute [go_sem ↓] seqQ_normal seqQ_exit seqQ_ret blockQ_normal blockQ_ret blockQ_exit

section
variable {st : PS}
theorem ev_tmp (t : Nat) : st.ev (.tmp t) = st.sl t := rfl
theorem ev_const (v : Value) : st.ev (.const v) = .val v := rfl
theorem ev_func (f : FuncId) : st.ev (.func f) = .fn f [] := rfl
theorem put_sl (d t : Nat) (p : PV) : (st.put (some d) p).sl t = if t = d then p else st.sl t := rfl
theorem put_H (d : Option Nat) (p : PV) : (st.put d p).H = st.H := by cases d <;> rfl
theorem put_nx (d : Option Nat) (p : PV) : (st.put d p).nx = st.nx := by cases d <;> rfl
theorem put_it (d : Option Nat) (p : PV) : (st.put d p).it = st.it := by cases d <;> rfl
theorem put_none (p : PV) : st.put none p = st := rfl
end
attribute [go_sem] ev_tmp ev_const ev_func put_sl put_H put_nx put_it put_none


section
variable {ops : Array Oper} {K : PS → Prop} {r : List Oper} {st : PS} {d : Option Nat} {ty : TypeId} {pos : String} {aft : Array Edge}


def qstep (P : Program) (ops : Array Oper) (K : PS → Prop) (r : List Oper) (st : PS) (d : Option Nat) (o : Option PV) : Prop := ∃ p, o = some p ∧ pOps P ops K r (st.put d p)
theorem qstep_some (p : PV) : qstep P ops K r st d (some p) = pOps P ops K r (st.put d p) := by simp [qstep]
theorem qstep_none : qstep P ops K r st d none = False := by simp [qstep]
theorem qstep_ite (c : Prop) [Decidable c] (o : Option PV) : qstep P ops K r st d (if c then o else none) = (c ∧ qstep P ops K r st d o) := by
  by_cases h : c <;> simp [qstep, h]

def nstep (P : Program) (ops : Array Oper) (K : PS → Prop) (r : List Oper) (d : Option Nat) (p : PV) (st : PS) : Prop := pOps P ops K r (st.put d p)
theorem nstep_eq (p : PV) : nstep P ops K r d p st = pOps P ops K r (st.put d p) := rfl
def sstep (P : Program) (ops : Array Oper) (K : PS → Prop) (r : List Oper) (d : Option Nat) (st : PS) : Prop := pOps P ops K r (st.put d (.val undef))
theorem sstep_eq : sstep P ops K r d st = pOps P ops K r (st.put d (.val undef)) := rfl
theorem pOps_nil : pOps P ops K [] st = K st := rfl
theorem pOps_cat (o : Oper) (l m : List Oper) : pOps P ops K (List.append (o :: l) m) st = pOps P ops K (o :: List.append l m) st := rfl
theorem pOps_cat_nil (m : List Oper) : pOps P ops K (List.append [] m) st = pOps P ops K m st := rfl

def gstep (P : Program) (ops : Array Oper) (K : PS → Prop) (o : Oper) (r : List Oper) (st : PS) (want : Bool) (v : PV) : Prop := match v with
  | .val (.bool b) => (b = want → pOps P ops K (o :: r) st) ∧ (b ≠ want → pOps P ops K r (st.put o.dst (.val undef)))
  | .val (.tuple _) => pOps P ops K r (st.put o.dst (.val undef))
  | _ => False

def slotV (st : PS) (d : Option Nat) : PV := match d with
  | some d => st.sl d
  | none => .any
theorem slotV_some (d : Nat) : slotV st (some d) = st.sl d := rfl
theorem pOps_guard (op : Op) (j : Nat) (w : Bool) : pOps P ops K (⟨d, op, ty, pos, aft, some (j, w)⟩ :: r) st =
    gstep P ops K ⟨d, op, ty, pos, aft, none⟩ r st w (slotV st ((ops[j]?).bind (·.dst))) := by
  simp only [pOps, pGuard, gstep]
  cases (ops[j]?).bind (·.dst) with
  | none => rfl
  | some d => simp only [slotV]; rfl

def pickP (c a b : PV) : Option PV := match c with
  | .val (.bool t) => some (if t then a else b)
  | _ => none
def binP (P : Program) (op : BinOp) (t : TypeId) (x y : PV) : Option PV := match x, y with
  | .val (.bool a), .val (.bool b) => if boolT P t = true then (binV op (.bool a) (.bool b)).map .val else none
  | .val a, .val b => (binV op a b).map .val
  | _, _ => none
def unP (op : UnOp) (x : PV) : Option PV := match x with
  | .val a => (unV op a).map .val
  | _ => none
def indexAddrP (P : Program) (t : TypeId) (x i : PV) : Option PV := match elemT P t with
  | some e => match sizeT P e, i with
    | some sz, .val (.int _ n) => idxP sz x n
    | _, _ => none
  | none => none
def indexP (P : Program) (t : TypeId) (x i : PV) : Option PV := match x, i with
  | .val (.string s), .val (.int _ n) => if strT P t = true ∧ 0 ≤ n then (s[n.toNat]?).map fun b => .val (.int .u8 b.toNat) else none
  | _, _ => none
def loadP (P : Program) (H : Nat → Option (List PV)) (t : TypeId) (p : PV) : Option PV := match sizeT P t with
  | some n => if aggT P t || oneT P t then ldP (aggT P t) n H p else none
  | none => none
def fieldAddrP (P : Program) (s : TypeId) (p : PV) (f : Nat) : Option PV := match fieldT P s f with
  | some (off, t) => match sizeT P t with
    | some (n + 1) => fldP off p
    | _ => none
  | none => none
def fieldP (P : Program) (s : TypeId) (x : PV) (f : Nat) : Option PV := match fieldT P s f, aggP x with
  | some (off, t), some cs => match sizeT P t with
    | some n => if aggT P t || oneT P t then ldC (aggT P t) n (cs.drop off) else none
    | none => none
  | _, _ => none
def extractP (x : PV) (i : Nat) : Option PV := match x with
  | .tup cs => cs[i]?
  | _ => none
def nilCheckP (x : PV) : Option PV := match x with
  | .ptr id off => some (.ptr id off)
  | .rp cs => some (.rp cs)
  | _ => none
def lenOfP (P : Program) (t : TypeId) (x : PV) : Option PV :=
  if strT P t then (match x with
    | .val (.string s) => some (.val (.int .i64 s.size))
    | _ => none)
  else (match elemT P t, x with
    | some _, .val (.string _) => none
    | some _, x => (lenP x).map fun n => .val (.int .i64 n)
    | _, _ => none)
def capOfP (P : Program) (t : TypeId) (x : PV) : Option PV := match elemT P t, x with
  | some _, x => (capP x).map fun n => .val (.int .i64 n)
  | _, _ => none

def bndV (d : Nat) : Option PV → Option Nat
  | none => some d
  | some (.val (.int _ n)) => if 0 ≤ n then some n.toNat else none
  | some _ => none
def sliceOfP (P : Program) (t : TypeId) (x : PV) (lo hi : Option PV) : Option PV :=
  if strT P t then (match x with
    | .val (.string s) => match bndV s.size hi, bndV 0 lo with
      | some h, some l => sliceP 1 (.val (.string s)) l h
      | _, _ => none
    | _ => none)
  else match elemT P t with
    | some e => match sizeT P e, lenP x with
      | some sz, some n => match bndV n hi, bndV 0 lo, x with
        | _, _, .val (.string _) => none
        | some h, some l, x => sliceP sz x l h
        | _, _, _ => none
      | _, _ => none
    | none => none

theorem bndP_eq (n : Nat) (o : Option Operand) : bndP st n o = bndV n (o.map st.ev) := by
  cases o with
  | none => rfl
  | some x => simp only [bndP, Option.map_some]; cases st.ev x <;> simp [bndV]; rename_i v; cases v <;> simp

theorem pOps_move (x : Operand) : pOps P ops K (⟨d, .move x, ty, pos, aft, none⟩ :: r) st = qstep P ops K r st d (some (st.ev x)) := rfl
theorem pOps_assign (x : Operand) : pOps P ops K (⟨d, .assign x, ty, pos, aft, none⟩ :: r) st = qstep P ops K r st d (some (st.ev x)) := rfl
theorem pOps_pick (x a b : Operand) : pOps P ops K (⟨d, .pick x a b, ty, pos, aft, none⟩ :: r) st = qstep P ops K r st d (pickP (st.ev x) (st.ev a) (st.ev b)) := rfl
theorem pOps_binOp (op : BinOp) (t t' : TypeId) (x y : Operand) : pOps P ops K (⟨d, .binOp op t x y t', ty, pos, aft, none⟩ :: r) st = qstep P ops K r st d (binP P op t (st.ev x) (st.ev y)) := rfl
theorem pOps_unOp (op : UnOp) (t : TypeId) (x : Operand) : pOps P ops K (⟨d, .unOp op t x, ty, pos, aft, none⟩ :: r) st = qstep P ops K r st d (unP op (st.ev x)) := rfl
theorem pOps_convert (t t' : TypeId) (x : Operand) : pOps P ops K (⟨d, .convert t t' x, ty, pos, aft, none⟩ :: r) st = qstep P ops K r st d (convP P st.H t t' (st.ev x)) := rfl
theorem pOps_indexAddr (t : TypeId) (x i : Operand) : pOps P ops K (⟨d, .indexAddr t x i, ty, pos, aft, none⟩ :: r) st = qstep P ops K r st d (indexAddrP P t (st.ev x) (st.ev i)) := rfl
theorem pOps_index (t : TypeId) (x i : Operand) : pOps P ops K (⟨d, .index t x i, ty, pos, aft, none⟩ :: r) st = qstep P ops K r st d (indexP P t (st.ev x) (st.ev i)) := rfl
theorem pOps_load (t : TypeId) (x : Operand) : pOps P ops K (⟨d, .load t x, ty, pos, aft, none⟩ :: r) st = qstep P ops K r st d (loadP P st.H t (st.ev x)) := rfl
theorem pOps_fieldAddr (t : TypeId) (x : Operand) (f : Nat) : pOps P ops K (⟨d, .fieldAddr t x f, ty, pos, aft, none⟩ :: r) st = qstep P ops K r st d (fieldAddrP P t (st.ev x) f) := rfl
theorem pOps_field (t : TypeId) (x : Operand) (f : Nat) : pOps P ops K (⟨d, .field t x f, ty, pos, aft, none⟩ :: r) st = qstep P ops K r st d (fieldP P t (st.ev x) f) := rfl
theorem pOps_extract (x : Operand) (i : Nat) : pOps P ops K (⟨d, .extract x i, ty, pos, aft, none⟩ :: r) st = qstep P ops K r st d (extractP (st.ev x) i) := rfl
theorem pOps_nilCheck (x : Operand) : pOps P ops K (⟨d, .nilCheck x, ty, pos, aft, none⟩ :: r) st = qstep P ops K r st d (nilCheckP (st.ev x)) := rfl
theorem pOps_len (x : Operand) (t : TypeId) : pOps P ops K (⟨d, .call ⟨.builtin .len, #[x], #[t]⟩, ty, pos, aft, none⟩ :: r) st = qstep P ops K r st d (lenOfP P t (st.ev x)) := rfl
theorem pOps_cap (x : Operand) (t : TypeId) : pOps P ops K (⟨d, .call ⟨.builtin .cap, #[x], #[t]⟩, ty, pos, aft, none⟩ :: r) st = qstep P ops K r st d (capOfP P t (st.ev x)) := rfl
theorem pOps_max (x y : Operand) (t t' : TypeId) : pOps P ops K (⟨d, .call ⟨.builtin .max, #[x, y], #[t, t']⟩, ty, pos, aft, none⟩ :: r) st = qstep P ops K r st d (maxP (st.ev x) (st.ev y)) := rfl
theorem pOps_slice (t : TypeId) (x : Operand) (lo hi : Option Operand) : pOps P ops K (⟨d, .slice t x lo hi none, ty, pos, aft, none⟩ :: r) st = qstep P ops K r st d (sliceOfP P t (st.ev x) (lo.map st.ev) (hi.map st.ev)) := by
  simp only [pOps, pGuard, pOp, qv, qstep, sliceOfP, bndP_eq]
  rfl
theorem pOps_build (t : TypeId) (parts : Array (Nat × Operand)) : pOps P ops K (⟨d, .build t parts, ty, pos, aft, none⟩ :: r) st =
    qstep P ops K r st d ((zeroT P t).bind fun z => if sizedT P t then (buildF P st t parts.toList (z.map .val)).map .agg else none) := by
  simp only [pOps, pGuard, pOp, qv, qstep]
  cases zeroT P t <;> rfl
theorem pOps_makeFunc (f : FuncId) (caps : Array Operand) : pOps P ops K (⟨d, .makeFunc (.func f) #[] caps, ty, pos, aft, none⟩ :: r) st = pOps P ops K r (st.put d (.fn f (caps.toList.map st.ev))) := by
  simp [pOps, pGuard, pOp, qv]
theorem pOps_store (t : TypeId) (x y : Operand) : pOps P ops K (⟨d, .store t x y, ty, pos, aft, none⟩ :: r) st = pStore P st t (st.ev x) (st.ev y) (sstep P ops K r d) := rfl
theorem pOps_alloc (e : TypeId) : pOps P ops K (⟨d, .alloc e, ty, pos, aft, none⟩ :: r) st = pAlloc P st e (nstep P ops K r d) := rfl
theorem pOps_box (e : TypeId) (x : Operand) : pOps P ops K (⟨d, .box e x, ty, pos, aft, none⟩ :: r) st = pBox st (st.ev x) (nstep P ops K r d) := rfl
theorem pOps_makeSlice (t : TypeId) (x y : Operand) : pOps P ops K (⟨d, .makeSlice t x y, ty, pos, aft, none⟩ :: r) st = pMake P st t (st.ev x) (st.ev y) (nstep P ops K r d) := rfl
theorem pOps_buildSlice (t : TypeId) (n : Nat) (parts : Array (Nat × Operand)) : pOps P ops K (⟨d, .buildSlice t n parts, ty, pos, aft, none⟩ :: r) st = pBuildSlice P st t n parts.toList (nstep P ops K r d) := rfl
theorem pOps_range (t : TypeId) (x : Operand) : pOps P ops K (⟨d, .range t x, ty, pos, aft, none⟩ :: r) st = pRange P st t (st.ev x) (nstep P ops K r d) := rfl
theorem pOps_next (x : Operand) : pOps P ops K (⟨d, .next x true, ty, pos, aft, none⟩ :: r) st = pNext st (st.ev x) (nstep P ops K r d) := rfl
theorem pOps_append (x y : Operand) (t t' : TypeId) : pOps P ops K (⟨d, .call ⟨.builtin .append, #[x, y], #[t, t']⟩, ty, pos, aft, none⟩ :: r) st = pAppend P st t t' (st.ev x) (st.ev y) (nstep P ops K r d) := rfl
theorem pOps_copy (x y : Operand) (t t' : TypeId) : pOps P ops K (⟨d, .call ⟨.builtin .copy, #[x, y], #[t, t']⟩, ty, pos, aft, none⟩ :: r) st = pCopy P st t (st.ev x) (st.ev y) (nstep P ops K r d) := rfl
theorem pOps_call (f : FuncId) (args : Array Operand) (tys : Array TypeId) : pOps P ops K (⟨d, .call ⟨.value (.func f), args, tys⟩, ty, pos, aft, none⟩ :: r) st =
    pCall P f (args.toList.map st.ev) st (nstep P ops K r d) := by
  simp only [pOps, pGuard, pOp, ev_func, nstep]
  apply propext
  constructor
  · rintro ⟨g, caps, h, hp⟩
    simp at h; obtain ⟨rfl, rfl⟩ := h
    rw [List.append_nil] at hp; exact hp
  · intro hp; exact ⟨f, [], rfl, by rw [List.append_nil]; exact hp⟩
theorem pOps_callv (t : Nat) (args : Array Operand) (tys : Array TypeId) : pOps P ops K (⟨d, .call ⟨.value (.tmp t), args, tys⟩, ty, pos, aft, none⟩ :: r) st =
    ∃ g caps, st.sl t = .fn g caps ∧ pCall P g (args.toList.map st.ev ++ caps) st (nstep P ops K r d) := rfl
end
attribute [go_sem] qstep_some qstep_none qstep_ite nstep_eq sstep_eq slotV_some
attribute [go_sem ↓] pOps_nil pOps_cat pOps_cat_nil pOps_guard pOps_move pOps_assign pOps_pick pOps_binOp pOps_unOp pOps_convert pOps_indexAddr pOps_index pOps_load pOps_fieldAddr pOps_field pOps_extract pOps_nilCheck pOps_len pOps_cap pOps_max
  pOps_slice pOps_build pOps_makeFunc pOps_store pOps_alloc pOps_box pOps_makeSlice pOps_buildSlice pOps_range pOps_next pOps_append pOps_copy pOps_call pOps_callv

end Go.Proofs.Ytfjdfnlkobeehaa
end

section
set_option linter.unusedVariables false
set_option linter.unusedSimpArgs false
namespace Go.Proofs.Ytfjdfnlkobeehaa

variable {P : Program}


section
variable {ops : Array Oper} {K : PS → Prop} {o : Oper} {r : List Oper} {st : PS}
theorem gstep_undef (w : Bool) : gstep P ops K o r st w (.val undef) = pOps P ops K r (st.put o.dst (.val undef)) := rfl
theorem gstep_tt : gstep P ops K o r st true (.val (.bool true)) = pOps P ops K (o :: r) st := by simp [gstep]
theorem gstep_tf : gstep P ops K o r st false (.val (.bool true)) = pOps P ops K r (st.put o.dst (.val undef)) := by simp [gstep]
theorem gstep_ft : gstep P ops K o r st true (.val (.bool false)) = pOps P ops K r (st.put o.dst (.val undef)) := by simp [gstep]
theorem gstep_ff : gstep P ops K o r st false (.val (.bool false)) = pOps P ops K (o :: r) st := by simp [gstep]
theorem gstep_dec_tt {p : Prop} [Decidable p] (h : p) : gstep P ops K o r st true (.val (.bool (decide p))) = pOps P ops K (o :: r) st := by simp [gstep, h]
theorem gstep_dec_tf {p : Prop} [Decidable p] (h : p) : gstep P ops K o r st false (.val (.bool (decide p))) = pOps P ops K r (st.put o.dst (.val undef)) := by simp [gstep, h]
theorem gstep_dec_ft {p : Prop} [Decidable p] (h : ¬ p) : gstep P ops K o r st true (.val (.bool (decide p))) = pOps P ops K r (st.put o.dst (.val undef)) := by simp [gstep, h]
theorem gstep_dec_ff {p : Prop} [Decidable p] (h : ¬ p) : gstep P ops K o r st false (.val (.bool (decide p))) = pOps P ops K (o :: r) st := by simp [gstep, h]

end
theorem condC_true (x y : Prop) : condC (.val (.bool true)) x y = x := by simp [condC]
theorem condC_false (x y : Prop) : condC (.val (.bool false)) x y = y := by simp [condC]
theorem condC_dec {p : Prop} [Decidable p] (x y : Prop) : condC (.val (.bool (decide p))) x y = ((p → x) ∧ (¬ p → y)) := by
  by_cases h : p <;> simp [condC, h]
theorem condC_dec_t {p : Prop} [Decidable p] (h : p) (x y : Prop) : condC (.val (.bool (decide p))) x y = x := by simp [condC, h]
theorem condC_dec_f {p : Prop} [Decidable p] (h : ¬ p) (x y : Prop) : condC (.val (.bool (decide p))) x y = y := by simp [condC, h]
theorem pickP_true (a b : PV) : pickP (.val (.bool true)) a b = some a := rfl
theorem pickP_false (a b : PV) : pickP (.val (.bool false)) a b = some b := rfl
theorem pickP_dec_t {p : Prop} [Decidable p] (h : p) (a b : PV) : pickP (.val (.bool (decide p))) a b = some a := by simp [pickP, h]
theorem pickP_dec_f {p : Prop} [Decidable p] (h : ¬ p) (a b : PV) : pickP (.val (.bool (decide p))) a b = some b := by simp [pickP, h]
attribute [go_sem] gstep_undef gstep_tt gstep_tf gstep_ft gstep_ff gstep_dec_tt gstep_dec_tf gstep_dec_ft gstep_dec_ff condC_true condC_false condC_dec_t condC_dec_f pickP_true pickP_false pickP_dec_t pickP_dec_f
attribute [go_sem low] condC_dec


theorem wrap_u64 (z : Int) : IntKind.u64.wrap z = z % 18446744073709551616 := rfl
theorem wrap_u32 (z : Int) : IntKind.u32.wrap z = z % 4294967296 := rfl
theorem wrap_u8 (z : Int) : IntKind.u8.wrap z = z % 256 := rfl
theorem arith_i64 {z : Int} (h : -9223372036854775808 ≤ z ∧ z ≤ 9223372036854775807) : arithV .i64 z = some (.int .i64 z) := by
  have h1 : IntKind.i64.min = -9223372036854775808 := rfl
  have h2 : IntKind.i64.max = 9223372036854775807 := rfl
  simp [arithV, IntKind.signed, h1, h2, h]
theorem arith_i64' (z : Int) : arithV .i64 z = if -9223372036854775808 ≤ z ∧ z ≤ 9223372036854775807 then some (.int .i64 z) else none := rfl
theorem arith_i32 {z : Int} (h : -2147483648 ≤ z ∧ z ≤ 2147483647) : arithV .i32 z = some (.int .i32 z) := by
  have h1 : IntKind.i32.min = -2147483648 := rfl
  have h2 : IntKind.i32.max = 2147483647 := rfl
  simp [arithV, IntKind.signed, h1, h2, h]
theorem arith_u64 {z : Int} (h : 0 ≤ z ∧ z ≤ 18446744073709551615) : arithV .u64 z = some (.int .u64 z) := by
  have : z % 18446744073709551616 = z := by omega
  simp [arithV, IntKind.signed, wrap_u64, this]
theorem arith_u64' (z : Int) : arithV .u64 z = some (.int .u64 (z % 18446744073709551616)) := rfl
theorem arith_u32 {z : Int} (h : 0 ≤ z ∧ z ≤ 4294967295) : arithV .u32 z = some (.int .u32 z) := by
  have : z % 4294967296 = z := by omega
  simp [arithV, IntKind.signed, wrap_u32, this]
theorem arith_u32' (z : Int) : arithV .u32 z = some (.int .u32 (z % 4294967296)) := rfl
theorem arith_u8 {z : Int} (h : 0 ≤ z ∧ z ≤ 255) : arithV .u8 z = some (.int .u8 z) := by
  have : z % 256 = z := by omega
  simp [arithV, IntKind.signed, wrap_u8, this]
theorem arith_u8' (z : Int) : arithV .u8 z = some (.int .u8 (z % 256)) := rfl
attribute [go_sem] arith_i64 arith_i32 arith_u64 arith_u32 arith_u8
attribute [go_sem low] arith_i64' arith_u64' arith_u32' arith_u8'

section
variable (t : TypeId) (k k' : IntKind) (a b : Int)
theorem binP_add : binP P .add t (.val (.int k a)) (.val (.int k b)) = (arithV k (a + b)).map .val := by simp [binP, binV, binI]
theorem binP_sub : binP P .sub t (.val (.int k a)) (.val (.int k b)) = (arithV k (a - b)).map .val := by simp [binP, binV, binI]
theorem binP_mul : binP P .mul t (.val (.int k a)) (.val (.int k b)) = (arithV k (a * b)).map .val := by simp [binP, binV, binI]
theorem binP_lss : binP P .lss t (.val (.int k a)) (.val (.int k b)) = some (.val (.bool (decide (a < b)))) := by simp [binP, binV, binI]
theorem binP_leq : binP P .leq t (.val (.int k a)) (.val (.int k b)) = some (.val (.bool (decide (a ≤ b)))) := by simp [binP, binV, binI]
theorem binP_gtr : binP P .gtr t (.val (.int k a)) (.val (.int k b)) = some (.val (.bool (decide (b < a)))) := by simp [binP, binV, binI]
theorem binP_geq : binP P .geq t (.val (.int k a)) (.val (.int k b)) = some (.val (.bool (decide (b ≤ a)))) := by simp [binP, binV, binI]
theorem binP_eql : binP P .eql t (.val (.int k a)) (.val (.int k b)) = some (.val (.bool (decide (a = b)))) := by simp [binP, binV, binI]
theorem binP_neq : binP P .neq t (.val (.int k a)) (.val (.int k b)) = some (.val (.bool (decide (¬ a = b)))) := by simp [binP, binV, binI]
theorem binP_quo {a b : Int} (h : 0 ≤ a ∧ 0 < b) : binP P .quo t (.val (.int k a)) (.val (.int k b)) = (arithV k (a / b)).map .val := by
  have : ¬ b = 0 := by omega
  simp [binP, binV, binI, this, Int.tdiv_eq_ediv_of_nonneg h.1]
theorem binP_rem {a b : Int} (h : 0 ≤ a ∧ 0 < b) : binP P .rem t (.val (.int k a)) (.val (.int k b)) = some (.val (.int k (a % b))) := by
  have : ¬ b = 0 := by omega
  simp [binP, binV, binI, this, Int.tmod_eq_emod_of_nonneg h.1]
theorem binP_shr : binP P .shr t (.val (.int k a)) (.val (.int k' b)) = (shiftV .shr k a b).map .val := by simp [binP, binV]
theorem binP_shl : binP P .shl t (.val (.int k a)) (.val (.int k' b)) = (shiftV .shl k a b).map .val := by simp [binP, binV]
theorem binP_and : binP P .and t (.val (.int k a)) (.val (.int k b)) = (bitsV .and k a b).map .val := by simp [binP, binV, binI]
theorem binP_or : binP P .or t (.val (.int k a)) (.val (.int k b)) = (bitsV .or k a b).map .val := by simp [binP, binV, binI]
theorem binP_eql_bool (x y : Bool) : binP P .eql t (.val (.bool x)) (.val (.bool y)) = if boolT P t = true then some (.val (.bool (x == y))) else none := by simp [binP, binV]
theorem binP_neq_bool (x y : Bool) : binP P .neq t (.val (.bool x)) (.val (.bool y)) = if boolT P t = true then some (.val (.bool (x != y))) else none := by simp [binP, binV]
theorem binP_add_str (x y : ByteArray) : binP P .add t (.val (.string x)) (.val (.string y)) = if x.size + y.size ≤ 9223372036854775807 then some (.val (.string (x ++ y))) else none := by
  simp only [binP, binV, strV]; split <;> rfl
theorem binP_eql_str (x y : ByteArray) : binP P .eql t (.val (.string x)) (.val (.string y)) = some (.val (.bool (x.toList == y.toList))) := by simp [binP, binV, strV]
theorem binP_neq_str (x y : ByteArray) : binP P .neq t (.val (.string x)) (.val (.string y)) = some (.val (.bool (!(x.toList == y.toList)))) := by simp [binP, binV, strV]
theorem shr_u64_32 : shiftV .shr .u64 a 32 = some (.int .u64 (a / 4294967296)) := by
  simp [shiftV, IntKind.bits, Int.fdiv_eq_ediv_of_nonneg]
theorem shr_u64_63 : shiftV .shr .u64 a 63 = some (.int .u64 (a / 9223372036854775808)) := by
  simp [shiftV, IntKind.bits, Int.fdiv_eq_ediv_of_nonneg]
theorem shl_u64_32 : shiftV .shl .u64 a 32 = arithV .u64 (a * 4294967296) := by simp [shiftV, IntKind.bits]
theorem shiftV_shr {b : Int} (h : 0 ≤ b) : shiftV .shr k a b = some (.int k (a / 2 ^ (min b.toNat k.bits))) := by
  have h1 : ¬ b < 0 := by omega
  have h2 : (0 : Int) ≤ 2 ^ (min b.toNat k.bits) := Int.le_of_lt (Int.pow_pos (by omega))
  simp [shiftV, h1, Int.fdiv_eq_ediv_of_nonneg _ h2]
theorem shiftV_shl {b : Int} (h : 0 ≤ b) : shiftV .shl k a b = arithV k (a * 2 ^ (min b.toNat k.bits)) := by
  have h1 : ¬ b < 0 := by omega
  simp [shiftV, h1]
theorem unP_not (x : Bool) : unP .not (.val (.bool x)) = some (.val (.bool (!x))) := rfl
theorem unP_not_dec {p : Prop} [Decidable p] : unP .not (.val (.bool (decide p))) = some (.val (.bool (decide (¬ p)))) := by simp [unP, unV]
theorem unP_neg : unP .neg (.val (.int k a)) = (arithV k (0 - a)).map .val := rfl
def convK (s d : Option IntKind) (n : Int) : Option PV := match s, d with
  | some sk, some k => (convI sk k n).map .val
  | _, _ => none
theorem convP_int (H : Nat → Option (List PV)) (s d : TypeId) : convP P H s d (.val (.int k a)) = convK (kindT P s) (kindT P d) a := rfl
theorem convK_u (sk : IntKind) {d : IntKind} (h : d.signed = false) : convK (some sk) (some d) a = (arithV d a).map .val := by
  simp [convK, convI, arithV, h]
theorem convK_u64 (sk : IntKind) : convK (some sk) (some .u64) a = (arithV .u64 a).map .val := convK_u _ _ rfl
theorem convK_u32 (sk : IntKind) : convK (some sk) (some .u32) a = (arithV .u32 a).map .val := convK_u _ _ rfl
theorem convK_u8 (sk : IntKind) : convK (some sk) (some .u8) a = (arithV .u8 a).map .val := convK_u _ _ rfl
theorem convK_i64 {sk : IntKind} (h : ¬ sk = .u64) : convK (some sk) (some .i64) a = (arithV .i64 a).map .val := by
  simp [convK, convI, IntKind.signed, h]
theorem convK_i64_i64 : convK (some .i64) (some .i64) a = (arithV .i64 a).map .val := convK_i64 _ (by simp)
theorem convK_i32_i64 : convK (some .i32) (some .i64) a = (arithV .i64 a).map .val := convK_i64 _ (by simp)
theorem convK_u32_i64 : convK (some .u32) (some .i64) a = (arithV .i64 a).map .val := convK_i64 _ (by simp)
theorem convK_u8_i64 : convK (some .u8) (some .i64) a = (arithV .i64 a).map .val := convK_i64 _ (by simp)
theorem convK_u64_i64 {a : Int} (h : 0 ≤ a ∧ a ≤ 9223372036854775807) : convK (some .u64) (some .i64) a = some (.val (.int .i64 a)) := by
  have : IntKind.i64.wrap a = a := wrap_of_range rfl ⟨by show (-9223372036854775808 : Int) ≤ a; omega, by show a ≤ (9223372036854775807 : Int); omega⟩
  simp [convK, convI, IntKind.signed, this]
theorem convK_u64_i64' : convK (some .u64) (some .i64) a = some (.val (.int .i64 (IntKind.i64.wrap a))) := by simp [convK, convI, IntKind.signed]
end
attribute [go_sem] binP_add binP_sub binP_mul binP_lss binP_leq binP_gtr binP_geq binP_eql binP_neq binP_quo binP_rem binP_shr binP_shl binP_and binP_or binP_eql_bool binP_neq_bool binP_add_str binP_eql_str binP_neq_str
  shr_u64_32 shr_u64_63 shl_u64_32 unP_not unP_not_dec unP_neg convP_int convK_u64 convK_u32 convK_u8 convK_i64_i64 convK_i32_i64 convK_u32_i64 convK_u8_i64 convK_u64_i64
attribute [go_sem low] shiftV_shr shiftV_shl convK_u64_i64'


def PS.withH (st : PS) (H : Nat → Option (List PV)) (nx : Nat) : PS := { st with H := H, nx := nx }
section
variable (st : PS) (H : Nat → Option (List PV)) (nx : Nat)
theorem withH_sl : (st.withH H nx).sl = st.sl := rfl
theorem withH_H : (st.withH H nx).H = H := rfl
theorem withH_nx : (st.withH H nx).nx = nx := rfl
theorem withH_it : (st.withH H nx).it = st.it := rfl
theorem new_eq (cs : List PV) : st.new cs = st.withH (upd st.H st.nx (some cs)) (st.nx + 1) := rfl
end
attribute [go_sem] withH_sl withH_H withH_nx withH_it new_eq
theorem upd_same {α : Type} (f : Nat → α) (i : Nat) (x : α) : upd f i x i = x := upd_self f i x
theorem upd_other {α : Type} {f : Nat → α} {i j : Nat} {x : α} (h : ¬ j = i) : upd f i x j = f j := upd_ne f x h
attribute [go_sem] upd_same upd_other

section
variable (t : TypeId)
theorem indexAddrP_eq (x i : PV) : indexAddrP P t x i = (elemT P t).bind fun e => (sizeT P e).bind fun sz => (match i with | .val (.int _ n) => idxP sz x n | _ => none) := by
  unfold indexAddrP
  cases elemT P t with
  | none => rfl
  | some e =>
    simp only [Option.bind_some]
    cases sizeT P e with
    | none => rfl
    | some sz => cases i <;> (try rfl); rename_i v; cases v <;> rfl
theorem idxP_sl {sz len : Nat} {cs : List PV} {n : Int} (h : 0 ≤ n ∧ n < len) : idxP sz (.sl len cs) n = some (.rp (cs.drop (n.toNat * sz))) := by simp [idxP, h]
theorem idxP_sl' (sz len : Nat) (cs : List PV) (n : Int) : idxP sz (.sl len cs) n = if 0 ≤ n ∧ n < len then some (.rp (cs.drop (n.toNat * sz))) else none := rfl
theorem idxP_ref {sz id off len cap z : Nat} {n : Int} (h : 0 ≤ n ∧ n < len) : idxP sz (.ref id off len cap z) n = some (.ptr id (off + n.toNat * sz)) := by simp [idxP, h]
theorem idxP_ref' (sz id off len cap z : Nat) (n : Int) : idxP sz (.ref id off len cap z) n = if 0 ≤ n ∧ n < len then some (.ptr id (off + n.toNat * sz)) else none := rfl
theorem loadP_eq (H : Nat → Option (List PV)) (p : PV) : loadP P H t p = (sizeT P t).bind fun n => if aggT P t || oneT P t then ldP (aggT P t) n H p else none := by
  unfold loadP; cases sizeT P t <;> rfl
theorem ldP_rp (agg : Bool) (n : Nat) (H : Nat → Option (List PV)) (cs : List PV) : ldP agg n H (.rp cs) = ldC agg n cs := rfl
theorem ldP_ptr (agg : Bool) (n : Nat) (H : Nat → Option (List PV)) (id off : Nat) : ldP agg n H (.ptr id off) = (H id).bind fun cs => ldC agg n (cs.drop off) := by
  simp only [ldP]; cases H id <;> rfl
theorem ldC_one (n : Nat) (cs : List PV) : ldC false n cs = cs.head? := rfl
theorem ldC_agg (n : Nat) (cs : List PV) : ldC true n cs = if n ≤ cs.length ∧ 0 < n then some (.agg (cs.take n)) else none := rfl
theorem fieldAddrP_eq (p : PV) (f : Nat) : fieldAddrP P t p f = (fieldT P t f).bind fun q => (sizeT P q.2).bind fun n => if 0 < n then fldP q.1 p else none := by
  unfold fieldAddrP
  cases fieldT P t f with
  | none => rfl
  | some q =>
    simp only [Option.bind_some]
    cases sizeT P q.2 with
    | none => rfl
    | some n => cases n <;> rfl
theorem fldP_rp (off : Nat) (cs : List PV) : fldP off (.rp cs) = some (.rp (cs.drop off)) := rfl
theorem fldP_ptr (off id o : Nat) : fldP off (.ptr id o) = some (.ptr id (o + off)) := rfl
theorem fieldP_eq (x : PV) (f : Nat) : fieldP P t x f = (fieldT P t f).bind fun q => (aggP x).bind fun cs => (sizeT P q.2).bind fun n => if aggT P q.2 || oneT P q.2 then ldC (aggT P q.2) n (cs.drop q.1) else none := by
  unfold fieldP
  cases fieldT P t f with
  | none => rfl
  | some q =>
    simp only [Option.bind_some]
    cases aggP x with
    | none => rfl
    | some cs => simp only [Option.bind_some]; cases sizeT P q.2 <;> rfl
theorem aggP_agg (cs : List PV) : aggP (.agg cs) = some cs := rfl
theorem aggP_val (vs : Array Value) : aggP (.val (.agg vs)) = some (vs.toList.map .val) := rfl
theorem extractP_tup (cs : List PV) (i : Nat) : extractP (.tup cs) i = cs[i]? := rfl
theorem nilCheckP_ptr (id off : Nat) : nilCheckP (.ptr id off) = some (.ptr id off) := rfl
theorem nilCheckP_rp (cs : List PV) : nilCheckP (.rp cs) = some (.rp cs) := rfl
def lenS (x : PV) : Option PV := match x with
  | .val (.string _) => none
  | x => (lenP x).map fun n => .val (.int .i64 n)
theorem lenOfP_eq (x : PV) : lenOfP P t x = if strT P t = true then (match x with | .val (.string s) => some (.val (.int .i64 s.size)) | _ => none) else (elemT P t).bind fun _ => lenS x := by
  unfold lenOfP lenS
  split
  · rfl
  · cases elemT P t with
    | none => rfl
    | some e => cases x <;> (try rfl); rename_i v; cases v <;> rfl
theorem lenS_sl (n : Nat) (cs : List PV) : lenS (.sl n cs) = some (.val (.int .i64 n)) := rfl
theorem lenS_ref (id off n cap z : Nat) : lenS (.ref id off n cap z) = some (.val (.int .i64 n)) := rfl
theorem lenS_nil (b : Option Addr) (n cap : Nat) : lenS (.val (.slice b n cap)) = some (.val (.int .i64 n)) := rfl
theorem capOfP_ref (id off n cap z : Nat) : capOfP P t (.ref id off n cap z) = (elemT P t).bind fun _ => some (.val (.int .i64 cap)) := by
  unfold capOfP; cases elemT P t <;> rfl
theorem indexP_str (s : ByteArray) (k : IntKind) (n : Int) : indexP P t (.val (.string s)) (.val (.int k n)) = if strT P t = true ∧ 0 ≤ n then (s[n.toNat]?).map fun b => .val (.int .u8 b.toNat) else none := rfl
theorem bndV_none (d : Nat) : bndV d none = some d := rfl
theorem bndV_int {d : Nat} {k : IntKind} {n : Int} (h : 0 ≤ n) : bndV d (some (.val (.int k n))) = some n.toNat := by simp [bndV, h]
def sliceS (sz : Nat) (x : PV) (lo hi : Option PV) : Option PV := match x with
  | .val (.string _) => none
  | x => (lenP x).bind fun n => (bndV n hi).bind fun h => (bndV 0 lo).bind fun l => sliceP sz x l h
theorem sliceOfP_eq (x : PV) (lo hi : Option PV) : sliceOfP P t x lo hi = if strT P t = true then (match x with
    | .val (.string s) => (bndV s.size hi).bind fun h => (bndV 0 lo).bind fun l => sliceP 1 (.val (.string s)) l h
    | _ => none) else (elemT P t).bind fun e => (sizeT P e).bind fun sz => sliceS sz x lo hi := by
  unfold sliceOfP sliceS
  split
  · split
    · simp only []
      cases h1 : bndV _ hi <;> cases h2 : bndV 0 lo <;> simp
    · split <;> simp_all
  · cases elemT P t with
    | none => rfl
    | some e =>
      simp only [Option.bind_some]
      cases sizeT P e with
      | none => rfl
      | some sz =>
        simp only [Option.bind_some]
        cases x with
        | val v =>
          cases v with
          | string s => simp only [lenP]
          | slice b n cap => simp only [lenP]; cases h1 : bndV n hi <;> cases h2 : bndV 0 lo <;> simp [h1, h2]
          | _ => rfl
        | sl n cs => simp only [lenP]; cases h1 : bndV n hi <;> cases h2 : bndV 0 lo <;> simp [h1, h2]
        | ref id off n cap z => simp only [lenP]; cases h1 : bndV n hi <;> cases h2 : bndV 0 lo <;> simp [h1, h2]
        | _ => rfl
theorem sliceS_sl (sz n : Nat) (cs : List PV) (lo hi : Option PV) : sliceS sz (.sl n cs) lo hi = (bndV n hi).bind fun h => (bndV 0 lo).bind fun l => sliceP sz (.sl n cs) l h := rfl
theorem sliceS_ref (sz id off n cap z : Nat) (lo hi : Option PV) : sliceS sz (.ref id off n cap z) lo hi = (bndV n hi).bind fun h => (bndV 0 lo).bind fun l => sliceP sz (.ref id off n cap z) l h := rfl
theorem sliceP_sl {sz n lo hi : Nat} {cs : List PV} (h : lo ≤ hi ∧ hi ≤ n) : sliceP sz (.sl n cs) lo hi = some (.sl (hi - lo) ((cs.drop (lo * sz)).take ((hi - lo) * sz))) := by simp [sliceP, h]
theorem sliceP_str {sz lo hi : Nat} {s : ByteArray} (h : lo ≤ hi ∧ hi ≤ s.size) : sliceP sz (.val (.string s)) lo hi = some (.val (.string (s.extract lo hi))) := by simp [sliceP, h]
end
theorem maxP_int (k k' : IntKind) (a b : Int) : maxP (.val (.int k a)) (.val (.int k' b)) = some (.val (.int k (if b > a then b else a))) := rfl
attribute [go_sem] maxP_int
attribute [go_sem] indexAddrP_eq idxP_sl idxP_ref loadP_eq ldP_rp ldP_ptr ldC_one ldC_agg fieldAddrP_eq fldP_rp fldP_ptr fieldP_eq aggP_agg aggP_val extractP_tup nilCheckP_ptr nilCheckP_rp lenOfP_eq lenS_sl lenS_ref lenS_nil
  capOfP_ref indexP_str bndV_none bndV_int sliceOfP_eq sliceS_sl sliceS_ref sliceP_sl sliceP_str
attribute [go_sem low] idxP_sl' idxP_ref'



def needs (p q : Prop) : Prop := p ∧ q
theorem needs_of {p q : Prop} (h : p) : needs p q = q := propext ⟨fun h => h.2, fun hq => ⟨h, hq⟩⟩
theorem needs_and {p q : Prop} : needs p q = (p ∧ q) := rfl
attribute [go_sem] needs_of
attribute [go_sem low] needs_and
section
variable {st : PS} {t : TypeId} {K : PV → PS → Prop}
theorem pStore_ptr {K : PS → Prop} {id off : Nat} {x : PV} : pStore P st t (.ptr id off) x K =
    obind (sizeT P t) fun n => obind (st.H id) fun cs => needs (0 < n ∧ off + n ≤ cs.length ∧ (cellsP x).length = n ∧ (cellsP x).all oneP = true) (K (st.withH (upd st.H id (some (spl cs off (cellsP x)))) st.nx)) := by
  unfold pStore obind PS.withH needs
  apply propext
  constructor
  · rintro ⟨n, hs, hn, id', off', he, cs, hc, h1, h2, h3, hK⟩
    simp at he; obtain ⟨rfl, rfl⟩ := he
    exact ⟨n, hs, cs, hc, ⟨hn, h1, h2, h3⟩, hK⟩
  · rintro ⟨n, hs, cs, hc, ⟨hn, h1, h2, h3⟩, hK⟩
    exact ⟨n, hs, hn, id, off, rfl, cs, hc, h1, h2, h3, hK⟩
theorem pAlloc_eq {e : TypeId} : pAlloc P st e K = obind (zeroT P e) fun z => K (.ptr st.nx 0) (st.new (z.map .val)) := rfl
theorem pBox_eq {x : PV} : pBox st x K = (isAny x = false ∧ K (.ptr st.nx 0) (st.new (cellsP x))) := rfl
theorem pMake_int {k k' : IntKind} {n m : Int} : pMake P st t (.val (.int k n)) (.val (.int k' m)) K =
    obind (elemT P t) fun e => obind (sizeT P e) fun sz => obind (bytesT P e) fun b => obind (zeroT P e) fun z =>
      needs (z.length = sz ∧ 0 ≤ n ∧ n ≤ m ∧ (b : Int) * m ≤ 281474976710656 ∧ m ≤ 281474976710656) (K (.ref st.nx 0 n.toNat m.toNat sz) (st.new (repl m.toNat (z.map .val)))) := by
  unfold pMake obind needs
  apply propext
  constructor
  · rintro ⟨e, h1, sz, h2, b, h3, z, h4, h5, k, n', k', m', he, he', h6, h7, h8, h9, hK⟩
    simp at he he'
    obtain ⟨rfl, rfl⟩ := he
    obtain ⟨rfl, rfl⟩ := he'
    exact ⟨e, h1, sz, h2, b, h3, z, h4, ⟨h5, h6, h7, h8, h9⟩, hK⟩
  · rintro ⟨e, h1, sz, h2, b, h3, z, h4, ⟨h5, h6, h7, h8, h9⟩, hK⟩
    exact ⟨e, h1, sz, h2, b, h3, z, h4, h5, _, _, _, _, rfl, rfl, h6, h7, h8, h9, hK⟩
theorem pBuildSlice_eq {n : Nat} {parts : List (Nat × Operand)} : pBuildSlice P st t n parts K =
    obind (elemT P t) fun e => obind (sizeT P e) fun sz => obind (zeroT P e) fun z => needs (n * sz ≤ 16777216 ∧ z.length = sz)
      (obind (fillP st sz parts (repl n (z.map .val))) fun cs => K (.ref st.nx 0 n n sz) (st.new cs)) := by
  unfold pBuildSlice obind needs
  apply propext
  constructor
  · rintro ⟨e, h1, sz, h2, h3, z, h4, h5, cs, h6, hK⟩
    exact ⟨e, h1, sz, h2, z, h4, ⟨h3, h5⟩, cs, h6, hK⟩
  · rintro ⟨e, h1, sz, h2, z, h4, ⟨h3, h5⟩, cs, h6, hK⟩
    exact ⟨e, h1, sz, h2, h3, z, h4, h5, cs, h6, hK⟩
theorem pRange_str {s : ByteArray} : pRange P st t (.val (.string s)) K = (strT P t = true ∧ K (.ptr st.nx 0) { st with it := upd st.it st.nx (some (s, 0)), nx := st.nx + 1 }) := by
  unfold pRange
  apply propext
  constructor
  · rintro ⟨h, s', he, hK⟩; simp at he; subst he; exact ⟨h, hK⟩
  · rintro ⟨h, hK⟩; exact ⟨h, s, rfl, hK⟩
theorem fillP_nil (sz : Nat) (cs : List PV) : fillP st sz [] cs = some cs := rfl
theorem fillP_cons (sz i : Nat) (x : Operand) (ps : List (Nat × Operand)) (cs : List PV) : fillP st sz ((i, x) :: ps) cs =
    if (cellsP (st.ev x)).length = sz ∧ i * sz + sz ≤ cs.length ∧ isAny (st.ev x) = false then fillP st sz ps (spl cs (i * sz) (cellsP (st.ev x))) else none := rfl
theorem buildF_nil (cs : List PV) : buildF P st t [] cs = some cs := rfl
theorem buildF_cons (i : Nat) (x : Operand) (ps : List (Nat × Operand)) (cs : List PV) : buildF P st t ((i, x) :: ps) cs =
    (fieldT P t i).bind fun q => (sizeT P q.2).bind fun n => if (cellsP (st.ev x)).length = n ∧ q.1 + n ≤ cs.length ∧ isAny (st.ev x) = false then buildF P st t ps (spl cs q.1 (cellsP (st.ev x))) else none := by
  simp only [buildF]
  cases fieldT P t i with
  | none => rfl
  | some q => simp only [Option.bind_some]; cases sizeT P q.2 <;> rfl
end
attribute [go_sem] pStore_ptr pAlloc_eq pBox_eq pMake_int pBuildSlice_eq pRange_str fillP_nil fillP_cons buildF_nil buildF_cons

end Go.Proofs.Ytfjdfnlkobeehaa
end

section
set_option linter.unusedVariables false
set_option linter.unusedSimpArgs false
namespace Go.Proofs.Ytfjdfnlkobeehaa

variable {P : Program}


theorem Rr.drop {c : Cx} {st : PS} {a : Act} {w : World} {ρ : Nat → Nat} (h : Rr c st a w ρ) {H' : Nat → Option (List PV)} {it' : Nat → Option (ByteArray × Nat)}
    (hH : ∀ i, H' i = st.H i ∨ H' i = none) (hI : ∀ i, it' i = st.it i ∨ it' i = none) :
    Rr c { st with H := H', it := it' } a w ρ ∧ En.le (enOf c.A0 w ρ st.H st.it st.nx) (enOf c.A0 w ρ H' it' st.nx) := by
  have hl : ∀ i, Live H' it' i → Live st.H st.it i := by
    rintro i (⟨cs, hc, hne⟩ | hi)
    · rcases hH i with e | e
      · exact .inl ⟨cs, by rw [← e]; exact hc, hne⟩
      · simp [e] at hc
    · rcases hI i with e | e
      · exact .inr (by rw [← e]; exact hi)
      · exact absurd e hi
  have hle : En.le (enOf c.A0 w ρ st.H st.it st.nx) (enOf c.A0 w ρ H' it' st.nx) :=
    ⟨fun _ _ _ _ hv => hv, fun b _ _ hA _ hA' => hA (hA'.imp id fun ⟨i, hi, e⟩ => ⟨i, hl i hi, e⟩), Nat.le_refl _, fun _ _ => rfl⟩
  refine ⟨⟨⟨fun i hi => h.own.bound i ?_, fun i cs hc hne => ?_, fun i j hi hj he => h.own.inj i j (hl i hi) (hl j hj) he, fun i cs hc hne => ?_, fun i s p hi => ?_, fun i hi => h.own.out i (hl i hi)⟩,
    fun t => Rep.mono hle _ _ (h.slots t), h.size, h.defers, h.frame, h.grow, h.ids, h.ρk, h.fF, h.fA, h.sw⟩, hle⟩
  · rcases hi with hi | hi
    · rcases hH i with e | e
      · exact .inl (by rw [← e]; exact hi)
      · exact absurd e hi
    · rcases hI i with e | e
      · exact .inr (by rw [← e]; exact hi)
      · exact absurd e hi
  · have hc : H' i = some cs := hc
    rcases hI i with e | e
    · rcases hH i with e2 | e2
      · show it' i = none
        rw [e]; exact h.own.excl i cs (by rw [← e2]; exact hc) hne
      · simp [e2] at hc
    · exact e
  · have hc : H' i = some cs := hc
    rcases hH i with e2 | e2
    · obtain ⟨vs, e, hb, hr⟩ := h.own.blk i cs (by rw [← e2]; exact hc) hne
      exact ⟨vs, e, hb, RepL.mono hle _ _ hr⟩
    · simp [e2] at hc
  · have hi : it' i = some (s, p) := hi
    rcases hI i with e | e
    · exact h.own.itb i s p (by rw [← e]; exact hi)
    · simp [e] at hi


def frz (D : Nat → Bool) (H : Nat → Option (List PV)) : Nat → PV → Option PV
  | 0, p => if flat p then some p else none
  | d + 1, .ref id off n cap sz => if D id then (H id).bind fun cs => if off + n * sz ≤ cs.length then (((cs.drop off).take (n * sz)).mapM (frz D H d)).map (.sl n) else none else none
  | d + 1, .ptr id off => if D id then (H id).bind fun cs => ((cs.drop off).mapM (frz D H d)).map .rp else none
  | d + 1, .agg cs => (cs.mapM (frz D H d)).map .agg
  | d + 1, .tup cs => (cs.mapM (frz D H d)).map .tup
  | _ + 1, p => if flat p then some p else none

def dropH (D : Nat → Bool) (H : Nat → Option (List PV)) : Nat → Option (List PV) := fun i => if D i then none else H i

theorem frz_sound {c : Cx} {st : PS} {a : Act} {w : World} {ρ : Nat → Nat} (h : Rr c st a w ρ) (D : Nat → Bool) :
    ∀ (d : Nat) (p q : PV) (v : Value), frz D st.H d p = some q → Rep (enOf c.A0 w ρ st.H st.it st.nx) p v → Rep (enOf c.A0 w ρ (dropH D st.H) st.it st.nx) q v := by
  obtain ⟨_, hle⟩ := h.drop (H' := dropH D st.H) (it' := st.it) (fun i => by unfold dropH; split; exact .inr rfl; exact .inl rfl) (fun i => .inl rfl)
  have hflat : ∀ (p q : PV) (v : Value), (if flat p then some p else none) = some q → Rep (enOf c.A0 w ρ st.H st.it st.nx) p v → Rep (enOf c.A0 w ρ (dropH D st.H) st.it st.nx) q v := by
    intro p q v hq hr
    split at hq
    · simp at hq; subst hq; exact Rep.mono hle _ _ hr
    · simp at hq
  intro d
  induction d with
  | zero => intro p q v hq hr; exact hflat p q v hq hr
  | succ d ih =>
    have hL : ∀ (ps qs : List PV) (vs : List Value), ps.mapM (frz D st.H d) = some qs → RepL (enOf c.A0 w ρ st.H st.it st.nx) ps vs → RepL (enOf c.A0 w ρ (dropH D st.H) st.it st.nx) qs vs := by
      intro ps
      induction ps with
      | nil => intro qs vs hq hr; simp at hq; subst hq; cases vs <;> simp_all [RepL]
      | cons p ps ihl =>
        intro qs vs hq hr
        cases vs with
        | nil => simp [RepL] at hr
        | cons v vs =>
          rw [List.mapM_cons] at hq
          simp only [RepL] at hr
          cases h1 : frz D st.H d p with
          | none => simp [h1] at hq
          | some q =>
            cases h2 : ps.mapM (frz D st.H d) with
            | none => simp [h1, h2] at hq
            | some qs' =>
              simp [h1, h2] at hq; subst hq
              simp only [RepL]
              exact ⟨ih p q v h1 hr.1, ihl qs' vs h2 hr.2⟩
    
    have hrow : ∀ (id : Nat) (cs : List PV), D id = true → st.H id = some cs → ∀ (off k : Nat) (qs : List PV), (((cs.drop off).take k).mapM (frz D st.H d)) = some qs →
        qs = [] ∨ (¬ (enOf c.A0 w ρ (dropH D st.H) st.it st.nx).A (ρ id) ∧ Row (enOf c.A0 w ρ (dropH D st.H) st.it st.nx) (ρ id) off qs) := by
      intro id cs hD hc off k qs hq
      by_cases hne : cs = []
      · subst hne; simp at hq; exact .inl hq
      · refine .inr ⟨?_, ?_⟩
        · have hid : Live st.H st.it id := .inl ⟨cs, hc, hne⟩
          rintro (h0 | ⟨i, hl, he⟩)
          · exact (h.own.out id hid).2 h0
          · have hl' : Live st.H st.it i := by
              rcases hl with ⟨ds, hd, hn⟩ | hi
              · unfold dropH at hd; split at hd
                · simp at hd
                · exact .inl ⟨ds, hd, hn⟩
              · exact .inr hi
            have := h.own.inj i id hl' hid he
            subst this
            rcases hl with ⟨ds, hd, hn⟩ | hi
            · simp [dropH, hD] at hd
            · exact hi (h.own.excl _ cs hc hne)
        · obtain ⟨vs, e, hb, hr⟩ := h.own.blk id cs hc hne
          have h1 := hL _ qs ((vs.toList.drop off).take k) hq (RepL.take k (RepL.drop off hr))
          refine Row.of_block (E := enOf c.A0 w ρ (dropH D st.H) st.it st.nx) hb qs off _ h1 fun i hi => ?_
          simp at hi
          rw [List.getElem?_take]
          rw [if_pos (by omega)]
          simp
    intro p q v hq hr
    cases p with
    | ref id off n cap sz =>
      simp only [frz] at hq
      split at hq
      · rename_i hD
        cases hc : st.H id with
        | none => simp [hc] at hq
        | some cs =>
          simp only [hc, Option.bind_some] at hq
          split at hq
          · cases hm : ((cs.drop off).take (n * sz)).mapM (frz D st.H d) with
            | none => simp [hm] at hq
            | some qs =>
              simp [hm] at hq; subst hq
              simp only [Rep] at hr
              obtain ⟨hid, hle', rfl | ⟨rfl, rfl, rfl⟩⟩ := hr
              · simp only [Rep]
                exact .inr ⟨ρ id, off, cap, rfl, hle', hrow id cs hD hc off _ qs hm⟩
              · simp at hm; subst hm; simp [Rep]
          · simp at hq
      · simp at hq
    | ptr id off =>
      simp only [frz] at hq
      split at hq
      · rename_i hD
        cases hc : st.H id with
        | none => simp [hc] at hq
        | some cs =>
          simp only [hc, Option.bind_some] at hq
          cases hm : (cs.drop off).mapM (frz D st.H d) with
          | none => simp [hm] at hq
          | some qs =>
            simp [hm] at hq; subst hq
            simp only [Rep] at hr
            obtain ⟨hid, rfl⟩ := hr
            simp only [Rep]
            exact ⟨ρ id, off, rfl, hrow id cs hD hc off (cs.drop off).length qs (by rw [List.take_length]; exact hm)⟩
      · simp at hq
    | agg cs =>
      simp only [frz] at hq
      cases hm : cs.mapM (frz D st.H d) with
      | none => simp [hm] at hq
      | some qs =>
        simp [hm] at hq; subst hq
        simp only [Rep] at hr ⊢
        obtain ⟨vs, rfl, hr⟩ := hr
        exact ⟨vs, rfl, hL _ _ _ hm hr⟩
    | tup cs =>
      simp only [frz] at hq
      cases hm : cs.mapM (frz D st.H d) with
      | none => simp [hm] at hq
      | some qs =>
        simp [hm] at hq; subst hq
        simp only [Rep] at hr ⊢
        obtain ⟨vs, rfl, hr⟩ := hr
        exact ⟨vs, rfl, hL _ _ _ hm hr⟩
    | _ => exact hflat _ q v hq hr

theorem Gh.refl (st : PS) : Gh st st := fun _ _ _ h => h
theorem Gh.trans {s1 s2 s3 : PS} (h : Gh s1 s2) (h' : Gh s2 s3) : Gh s1 s3 := fun c a w hR => h' c a w (h c a w hR)


theorem Gh.freeze {st : PS} (t : Nat) (D : Nat → Bool) (d : Nat) {q : PV} (hq : frz D st.H d (st.sl t) = some q) : Gh st { st with sl := upd st.sl t q, H := dropH D st.H } := by
  rintro c a w ⟨ρ, h⟩
  obtain ⟨h', hle⟩ := h.drop (H' := dropH D st.H) (it' := st.it) (fun i => by unfold dropH; split; exact .inr rfl; exact .inl rfl) (fun i => .inl rfl)
  refine ⟨ρ, h'.own, fun u => ?_, h'.size, h'.defers, h'.frame, h'.grow, h'.ids, h'.ρk, h'.fF, h'.fA, h'.sw⟩
  by_cases hu : u = t
  · subst hu
    show Rep _ (upd st.sl u q u) _
    rw [upd_self]
    exact frz_sound h D d _ q _ hq (h.slots u)
  · show Rep _ (upd st.sl t q u) _
    rw [upd_ne _ _ hu]; exact h'.slots u


theorem Gh.drop {st : PS} (D : Nat → Bool) : Gh st { st with H := dropH D st.H } := by
  rintro c a w ⟨ρ, h⟩
  exact ⟨ρ, (h.drop (H' := dropH D st.H) (it' := st.it) (fun i => by unfold dropH; split; exact .inr rfl; exact .inl rfl) (fun i => .inl rfl)).1⟩


theorem Gh.nil {st : PS} (t sz : Nat) (ht : st.sl t = .val (.slice none 0 0)) :
    Gh st { st with sl := upd st.sl t (.ref st.nx 0 0 0 sz), H := upd st.H st.nx (some []), nx := st.nx + 1 } := by
  rintro c a w ⟨ρ, h⟩
  have hnone : st.H st.nx = none := by
    cases hc : st.H st.nx with
    | none => rfl
    | some x => exact absurd (h.own.bound st.nx (.inl (by simp [hc]))) (Nat.lt_irrefl _)
  have hl : ∀ i, Live (upd st.H st.nx (some [])) st.it i → Live st.H st.it i := by
    rintro i (⟨cs, hc, hne⟩ | hi)
    · by_cases hx : i = st.nx
      · subst hx; rw [upd_self] at hc; simp at hc; exact absurd hc.symm (by simpa using hne)
      · rw [upd_ne _ _ hx] at hc; exact .inl ⟨cs, hc, hne⟩
    · exact .inr hi
  have hle : En.le (enOf c.A0 w ρ st.H st.it st.nx) (enOf c.A0 w ρ (upd st.H st.nx (some [])) st.it (st.nx + 1)) :=
    ⟨fun _ _ _ _ hv => hv, fun b _ _ hA _ hA' => hA (hA'.imp id fun ⟨i, hi, e⟩ => ⟨i, hl i hi, e⟩), Nat.le_succ _, fun _ _ => rfl⟩
  refine ⟨ρ, ⟨fun i hi => ?_, fun i cs hc hne => ?_, fun i j hi hj he => h.own.inj i j (hl i hi) (hl j hj) he, fun i cs hc hne => ?_, h.own.itb, fun i hi => h.own.out i (hl i hi)⟩,
    fun u => ?_, h.size, h.defers, h.frame, h.grow, Nat.le_succ_of_le h.ids, h.ρk, h.fF, h.fA, h.sw⟩
  · by_cases hx : i = st.nx
    · exact hx ▸ Nat.lt_succ_self _
    · simp only [upd_ne _ _ hx] at hi; exact Nat.lt_succ_of_lt (h.own.bound i hi)
  · have hc : upd st.H st.nx (some []) i = some cs := hc
    by_cases hx : i = st.nx
    · subst hx; rw [upd_self] at hc; simp at hc; exact absurd hc.symm (by simpa using hne)
    · rw [upd_ne _ _ hx] at hc; exact h.own.excl i cs hc hne
  · have hc : upd st.H st.nx (some []) i = some cs := hc
    by_cases hx : i = st.nx
    · subst hx; rw [upd_self] at hc; simp at hc; exact absurd hc.symm (by simpa using hne)
    · rw [upd_ne _ _ hx] at hc
      obtain ⟨vs, e, hb, hr⟩ := h.own.blk i cs hc hne
      exact ⟨vs, e, hb, RepL.mono hle _ _ hr⟩
  · by_cases hu : u = t
    · subst hu
      show Rep _ (upd st.sl u _ u) _
      rw [upd_self]
      have := h.slots u
      rw [ht] at this
      simp only [Rep] at this
      simp only [Rep]
      exact ⟨Nat.lt_succ_self _, Nat.le_refl _, .inr ⟨trivial, trivial, this⟩⟩
    · show Rep _ (upd st.sl t _ u) _
      rw [upd_ne _ _ hu]; exact Rep.mono hle _ _ (h.slots u)

theorem ghK_intro {K : PV → PS → Prop} {r : PV} {st : PS} (h : K r st) : ghK K r st := ⟨r, st, fun _ _ _ _ h => h, h⟩

mutual
theorem shift_flat (k : Nat) : ∀ (p : PV), flat p = true → shift k p = p
  | .any, _ => rfl
  | .val _, _ => rfl
  | .sl n cs, h => by simp only [flat] at h; simp only [shift]; rw [shiftL_flat k cs h]
  | .ref .., h => by simp [flat] at h
  | .ptr .., h => by simp [flat] at h
  | .rp cs, h => by simp only [flat] at h; simp only [shift]; rw [shiftL_flat k cs h]
  | .agg cs, h => by simp only [flat] at h; simp only [shift]; rw [shiftL_flat k cs h]
  | .tup cs, h => by simp only [flat] at h; simp only [shift]; rw [shiftL_flat k cs h]
  | .fn f cs, h => by simp only [flat] at h; simp only [shift]; rw [shiftL_flat k cs h]
theorem shiftL_flat (k : Nat) : ∀ (cs : List PV), flatL cs = true → shiftL k cs = cs
  | [], _ => rfl
  | c :: cs, h => by
    simp only [flatL, Bool.and_eq_true] at h
    simp only [shiftL]; rw [shift_flat k c h.1, shiftL_flat k cs h.2]
end


theorem GhV.tree {st : PS} (hb : WF st) {H' : Nat → Option (List PV)} {n' : Nat} {r q : PV} (d : Nat) (hq : frz (fun i => decide (st.nx ≤ i)) (joinH st.H st.nx H') d r = some q) :
    GhV r { st with H := joinH st.H st.nx H', nx := st.nx + n' } q (st.withH st.H (st.nx + n')) := by
  rintro c a w v ⟨ρ, h, hr⟩
  have hH : dropH (fun i => decide (st.nx ≤ i)) (joinH st.H st.nx H') = st.H := by
    funext i
    unfold dropH joinH
    rcases Nat.lt_or_ge i st.nx with hi | hi
    · simp [hi, Nat.not_le.2 hi]
    · simp [hi, hb i hi]
  have h1 := frz_sound h (fun i => decide (st.nx ≤ i)) d r q v hq hr
  have h2 := (h.drop (H' := dropH (fun i => decide (st.nx ≤ i)) (joinH st.H st.nx H')) (it' := st.it) (fun i => by unfold dropH; split; exact .inr rfl; exact .inl rfl) (fun i => .inl rfl)).1
  simp only [] at h1 h2
  rw [hH] at h1 h2
  exact ⟨ρ, h2, h1⟩

theorem GhV.frz {st : PS} {r q : PV} (D : Nat → Bool) (d : Nat) (hq : Ytfjdfnlkobeehaa.frz D st.H d r = some q) : GhV r st q { st with H := dropH D st.H } := by
  rintro c a w v ⟨ρ, h, hr⟩
  exact ⟨ρ, (h.drop (H' := dropH D st.H) (it' := st.it) (fun i => by unfold dropH; split; exact .inr rfl; exact .inl rfl) (fun i => .inl rfl)).1, frz_sound h D d r q v hq hr⟩


def treeQ (Q : PV → Prop) (r : PV) (_ : Nat → Option (List PV)) (_ : Nat) : Prop := flat r = true ∧ Q r

def isV (x r : PV) : Prop := r = x

def PT (P : Program) (f : FuncId) (args : List PV) (Q : PV → Prop) : Prop :=
  PCalls P f args (fun _ => none) 0 (treeQ Q)

theorem PT.mono {f : FuncId} {args : List PV} {Q Q' : PV → Prop} (h : PT P f args Q) (hq : ∀ r, Q r → Q' r) : PT P f args Q' :=
  PCalls.mono h fun _ _ _ ⟨h1, h2⟩ => ⟨h1, hq _ h2⟩


theorem pCall_tree {f : FuncId} {args args' : List PV} {st : PS} {K : PV → PS → Prop} {Q : PV → Prop} (hv : args.map (view st.H) = args') (hfl : flatL args = true) (hf : flatL args' = true)
    (h : PT P f args' Q) (hk : ∀ r n, flat r = true → Q r → st.nx ≤ n → K r (st.withH st.H n)) : pCall P f args st K := by
  refine ⟨_, _, GhA.refl _ _, .inl ⟨by rw [hv]; exact hf, ?_⟩⟩
  rw [hv]
  refine PCalls.mono h fun r H' n ⟨h1, h2⟩ => ⟨fun e => by rw [hfl] at e; simp at e, fun hwf _ => ?_⟩
  rw [shift_flat _ _ h1]
  refine ⟨r, _, GhV.tree hwf 0 (by simp [frz, h1]), hk r _ h1 h2 (by omega)⟩


theorem pCall_view {f : FuncId} {args args' : List PV} {st : PS} {K : PV → PS → Prop} {Q : PV → Prop} (hv : args.map (view st.H) = args') (hf : flatL args' = true) (hcl : flatL args = true ∨ ∀ r, Q r → closed r = true)
    (h : PT P f args' Q) (hk : ∀ r n, flat r = true → Q r → st.nx ≤ n → K r (st.withH st.H n)) : pCall P f args st K := by
  rcases hcl with hcl | hcl
  · exact pCall_tree hv hcl hf h hk
  · refine ⟨_, _, GhA.refl _ _, .inl ⟨by rw [hv]; exact hf, ?_⟩⟩
    rw [hv]
    refine ⟨h.1, fun w vs ρ A0 h1 h2 h3 => (h.2 w vs ρ A0 h1 h2 h3).mono ?_⟩
    rintro e w' ⟨v, r, H', nx', ρ', he, ⟨hfl, hq⟩, hnx, hρ, hown, hrep, hframe, hsize, hsw⟩
    refine ⟨v, r, fun _ => none, nx', ρ', he, ⟨fun _ => ⟨hcl r hq, fun i cs hi => by simp at hi⟩, fun hwf _ => ?_⟩, hnx, hρ, ?_, ?_, hframe, hsize, hsw⟩
    · rw [shift_flat _ _ hfl]
      have e : joinH st.H st.nx (fun _ => none) = st.H := by
        funext i
        unfold joinH
        split
        · rfl
        · rename_i hi; rw [hwf i (Nat.not_lt.1 hi)]; rfl
      rw [e]
      exact ghK_intro (hk r (st.nx + nx') hfl hq (by omega))
    · exact ⟨fun i hi => by simp at hi, fun i cs hi => by simp at hi, fun i j hi => by rcases hi with ⟨cs, hcs, _⟩ | hi <;> simp at *,
        fun i cs hi => by simp at hi, fun i s p hi => by simp at hi, fun i hi => by rcases hi with ⟨cs, hcs, _⟩ | hi <;> simp at *⟩
    · refine Rep.mono (E := enOf A0 w' ρ' H' (fun _ => none) nx') (E' := enOf A0 w' ρ' (fun _ => none) (fun _ => none) nx') ⟨fun _ _ _ _ hv => hv, fun b _ _ hA _ hA' => hA ?_, Nat.le_refl _, fun _ _ => rfl⟩ _ _ hrep
      rcases hA' with h0 | ⟨i, hl, e⟩
      · exact .inl h0
      · rcases hl with ⟨cs, hcs, _⟩ | hi <;> simp at *

theorem frzL_sound {c : Cx} {st : PS} {a : Act} {w : World} {ρ : Nat → Nat} (h : Rr c st a w ρ) (D : Nat → Bool) (d : Nat) :
    ∀ (ps qs : List PV) (vs : List Value), ps.mapM (Ytfjdfnlkobeehaa.frz D st.H d) = some qs → RepL (enOf c.A0 w ρ st.H st.it st.nx) ps vs → RepL (enOf c.A0 w ρ (dropH D st.H) st.it st.nx) qs vs
  | [], qs, vs, hq, hr => by
    simp at hq; subst hq
    cases vs <;> simp_all [RepL]
  | p :: ps, qs, [], hq, hr => by simp [RepL] at hr
  | p :: ps, qs, v :: vs, hq, hr => by
    rw [List.mapM_cons] at hq
    simp only [RepL] at hr
    cases h1 : Ytfjdfnlkobeehaa.frz D st.H d p with
    | none => simp [h1] at hq
    | some q =>
      cases h2 : ps.mapM (Ytfjdfnlkobeehaa.frz D st.H d) with
      | none => simp [h1, h2] at hq
      | some qs' =>
        simp [h1, h2] at hq; subst hq
        simp only [RepL]
        exact ⟨frz_sound h D d p q v h1 hr.1, frzL_sound h D d ps qs' vs h2 hr.2⟩

theorem pCall_frz {f : FuncId} {args args' args2 : List PV} {st : PS} {K : PV → PS → Prop} {Q : PV → Prop} (D : Nat → Bool) (d : Nat) (hq : args.mapM (Ytfjdfnlkobeehaa.frz D st.H d) = some args') (hfl : flatL args' = true) (hv : args'.map (view (dropH D st.H)) = args2) (hf : flatL args2 = true)
    (h : PT P f args2 Q) (hk : ∀ r n, flat r = true → Q r → st.nx ≤ n → K r (st.withH (dropH D st.H) n)) : pCall P f args st K := by
  have h1 : pCall P f args' { st with H := dropH D st.H } K := pCall_tree hv hfl hf h hk
  obtain ⟨args1, st1, hg, hc⟩ := h1
  refine ⟨args1, st1, fun c a w vs hR => hg c a w vs ?_, hc⟩
  obtain ⟨ρ, hR, hr⟩ := hR
  exact ⟨ρ, (hR.drop (H' := dropH D st.H) (it' := st.it) (fun i => by unfold dropH; split; exact .inr rfl; exact .inl rfl) (fun i => .inl rfl)).1, frzL_sound hR D d _ _ _ hq hr⟩

theorem resP_nil {st : PS} : resP P st [] = some [] := rfl
theorem resP_tmp {st : PS} {t : Nat} {rs : List ResultVar} : resP P st (.tmp t :: rs) = (resP P st rs).map (st.sl t :: ·) := rfl
theorem resP_cell {st : PS} {t : Nat} {ty : TypeId} {rs : List ResultVar} : resP P st (.cell t ty :: rs) = ((sizeT P ty).bind fun n => if aggT P ty || oneT P ty then ldP (aggT P ty) n st.H (st.sl t) else none).bind fun p => (resP P st rs).map (p :: ·) := by
  simp only [resP]
  cases sizeT P ty with
  | none => rfl
  | some n =>
    simp only [Option.bind_some]
    by_cases h : (aggT P ty || oneT P ty) = true
    · rw [if_pos h, if_pos h]
      cases ldP (aggT P ty) n st.H (st.sl t) <;> cases resP P st rs <;> rfl
    · rw [if_neg h, if_neg h]; rfl
attribute [go_sem] resP_nil resP_tmp resP_cell

theorem end_plain {rs : List ResultVar} {Q : PV → (Nat → Option (List PV)) → Nat → Prop} {st : PS} {ps : List PV} (h : resP P st rs = some ps) (hq : Q (tupP ps) st.H st.nx) : endQ P rs Q .ret st :=
  ⟨ps, h, ghK_intro hq⟩


theorem end_tree {rs : List ResultVar} {Q : PV → Prop} {st : PS} {ps : List PV} {q : PV} (d : Nat) (h : resP P st rs = some ps) (hf : frz (fun _ => true) st.H d (tupP ps) = some q) (hfl : flat q = true) (hq : Q q) :
    endQ P rs (treeQ Q) .ret st :=
  ⟨ps, h, q, _, GhV.frz _ d hf, hfl, hq⟩

end Go.Proofs.Ytfjdfnlkobeehaa
end

section
set_option linter.unusedVariables false
set_option linter.unusedSimpArgs false
namespace Go.Proofs.Ytfjdfnlkobeehaa

variable {P : Program}

section
variable (a b c d e : PV) (H : Nat → Option (List PV)) (nx t : Nat) (l : List PV)
theorem begP_H : (begP l H nx).H = H := rfl
theorem begP_nx : (begP l H nx).nx = nx := rfl
theorem begP_it : (begP l H nx).it = fun _ => none := rfl
theorem begP_0 : (begP [] H nx).sl t = .val undef := rfl
theorem begP_1 : (begP [a] H nx).sl t = if t = 0 then a else .val undef := by
  match t with
  | 0 => rfl
  | t + 1 => rfl
theorem begP_2 : (begP [a, b] H nx).sl t = if t = 0 then a else if t = 1 then b else .val undef := by
  match t with
  | 0 => rfl
  | 1 => rfl
  | t + 2 => simp [begP]
theorem begP_3 : (begP [a, b, c] H nx).sl t = if t = 0 then a else if t = 1 then b else if t = 2 then c else .val undef := by
  match t with
  | 0 => rfl
  | 1 => rfl
  | 2 => rfl
  | t + 3 => simp [begP]
theorem begP_4 : (begP [a, b, c, d] H nx).sl t = if t = 0 then a else if t = 1 then b else if t = 2 then c else if t = 3 then d else .val undef := by
  match t with
  | 0 => rfl
  | 1 => rfl
  | 2 => rfl
  | 3 => rfl
  | t + 4 => simp [begP]
theorem begP_5 : (begP [a, b, c, d, e] H nx).sl t = if t = 0 then a else if t = 1 then b else if t = 2 then c else if t = 3 then d else if t = 4 then e else .val undef := by
  match t with
  | 0 => rfl
  | 1 => rfl
  | 2 => rfl
  | 3 => rfl
  | 4 => rfl
  | t + 5 => simp [begP]
end
attribute [go_sem] begP_H begP_nx begP_it begP_0 begP_1 begP_2 begP_3 begP_4 begP_5

theorem ite_bind {α β : Type} (c : Prop) [Decidable c] (o : Option α) (f : α → Option β) : (if c then o else none).bind f = if c then o.bind f else none := by split <;> rfl
theorem ite_map {α β : Type} (c : Prop) [Decidable c] (o : Option α) (f : α → β) : (if c then o else none).map f = if c then o.map f else none := by split <;> rfl
attribute [go_sem] ite_bind ite_map List.getElem?_toArray
theorem get_nat {l : List Nat} {i : Nat} (h : i < l.length) : l[i]? = some (l.getD i 0) := by simp [h]
theorem get_int {l : List Int} {i : Nat} (h : i < l.length) : l[i]? = some (l.getD i 0) := by simp [h]
attribute [go_sem] get_nat get_int

attribute [go_sem] Bool.false_eq_true Bool.true_or Bool.or_true Bool.false_or Bool.or_false Bool.not_true Bool.not_false Bool.true_and Bool.and_true Option.bind_some Option.bind_none Option.map_some Option.map_none
  List.head?_drop List.getElem?_map List.length_map List.map_nil List.map_cons List.length_cons List.length_nil Int.toNat_natCast true_and and_true if_true if_false List.drop_zero Nat.mul_one Nat.one_mul Nat.zero_mul Nat.add_zero Nat.zero_add
  List.head?_cons List.drop_succ_cons List.take_succ_cons List.take_zero ne_eq not_true_eq_false not_false_eq_true decide_true decide_false List.append_nil List.nil_append List.getElem?_cons_zero List.getElem?_cons_succ

section
variable (v : Value) (n id off cap sz : Nat) (cs : List PV) (c : PV) (f : FuncId) (H : Nat → Option (List PV)) (D : Nat → Bool) (d : Nat)
theorem flat_val : flat (.val v) = true := rfl
theorem flat_sl : flat (.sl n cs) = flatL cs := rfl
theorem flat_rp : flat (.rp cs) = flatL cs := rfl
theorem flat_agg : flat (.agg cs) = flatL cs := rfl
theorem flat_tup : flat (.tup cs) = flatL cs := rfl
theorem flat_fn : flat (.fn f cs) = flatL cs := rfl
theorem flat_ref : flat (.ref id off n cap sz) = false := rfl
theorem flat_ptr : flat (.ptr id off) = false := rfl
theorem flatL_nil : flatL [] = true := rfl
theorem flatL_cons : flatL (c :: cs) = (flat c && flatL cs) := rfl
theorem closed_val : closed (.val v) = true := rfl
theorem closed_ref : closed (.ref id off n cap sz) = true := rfl
theorem closed_agg : closed (.agg cs) = closedL cs := rfl
theorem closed_tup : closed (.tup cs) = closedL cs := rfl
theorem closedL_nil : closedL [] = true := rfl
theorem closedL_cons : closedL (c :: cs) = (closed c && closedL cs) := rfl
theorem view_sl : view H (.sl n cs) = .sl n cs := rfl
theorem view_rp : view H (.rp cs) = .rp cs := rfl
theorem view_agg : view H (.agg cs) = .agg (cs.map (view1 H)) := rfl
theorem view_nil : view H (.val (.slice none 0 0)) = .sl 0 [] := rfl
theorem view_int (k : IntKind) (z : Int) : view H (.val (.int k z)) = .val (.int k z) := rfl
theorem view_bool (b : Bool) : view H (.val (.bool b)) = .val (.bool b) := rfl
theorem view_str (s : ByteArray) : view H (.val (.string s)) = .val (.string s) := rfl
theorem view_fn : view H (.fn f cs) = .fn f cs := rfl
theorem view_aggv (vs : Array Value) : view H (.val (.agg vs)) = .agg (vs.toList.map fun v => view1 H (.val v)) := rfl
theorem view1_sl : view1 H (.sl n cs) = .sl n cs := rfl
theorem view1_nil : view1 H (.val (.slice none 0 0)) = .sl 0 [] := rfl
theorem view1_int (k : IntKind) (z : Int) : view1 H (.val (.int k z)) = .val (.int k z) := rfl
theorem view1_bool (b : Bool) : view1 H (.val (.bool b)) = .val (.bool b) := rfl
theorem view1_str (s : ByteArray) : view1 H (.val (.string s)) = .val (.string s) := rfl
theorem frz_zero : frz D H 0 c = if flat c = true then some c else none := rfl
theorem frz_ref : frz D H (d + 1) (.ref id off n cap sz) = if D id = true then (H id).bind fun cs => if off + n * sz ≤ cs.length then (((cs.drop off).take (n * sz)).mapM (frz D H d)).map (.sl n) else none else none := rfl
theorem frz_agg : frz D H (d + 1) (.agg cs) = (cs.mapM (frz D H d)).map .agg := rfl
theorem frz_tup : frz D H (d + 1) (.tup cs) = (cs.mapM (frz D H d)).map .tup := rfl
theorem frz_val : frz D H (d + 1) (.val v) = some (.val v) := rfl
theorem frz_sl : frz D H (d + 1) (.sl n cs) = if flatL cs = true then some (.sl n cs) else none := rfl
end

theorem mapM_some {α : Type} {f : α → Option α} : ∀ {l : List α}, (∀ x ∈ l, f x = some x) → l.mapM f = some l
  | [], _ => rfl
  | x :: l, h => by
    rw [List.mapM_cons, h x (by simp), mapM_some (fun y hy => h y (by simp [hy]))]; rfl

theorem flatL_mem : ∀ {cs : List PV}, flatL cs = true → ∀ c ∈ cs, flat c = true
  | [], _, c, hc => by simp at hc
  | d :: cs, h, c, hc => by
    simp only [flatL, Bool.and_eq_true] at h
    rcases List.mem_cons.1 hc with rfl | hc
    · exact h.1
    · exact flatL_mem h.2 c hc

theorem frz_flat (D : Nat → Bool) (H : Nat → Option (List PV)) : ∀ (d : Nat) (c : PV), flat c = true → frz D H d c = some c := by
  intro d
  induction d with
  | zero => intro c h; simp [frz, h]
  | succ d ih =>
    intro c h
    cases c <;> simp only [flat] at h <;> simp only [frz, flat, h, if_true]
    · simp at h
    · simp at h
    · rw [mapM_some fun x hx => ih x (flatL_mem h x hx)]; rfl
    · rw [mapM_some fun x hx => ih x (flatL_mem h x hx)]; rfl

theorem frzL_flat (D : Nat → Bool) (H : Nat → Option (List PV)) (d : Nat) {cs : List PV} (h : flatL cs = true) : cs.mapM (frz D H d) = some cs :=
  mapM_some fun x hx => frz_flat D H d x (flatL_mem h x hx)


theorem end_treeW {rs : List ResultVar} {Q : PV → Prop} {st : PS} (d : Nat) (h : obind (resP P st rs) fun ps => obind (frz (fun _ => true) st.H d (tupP ps)) fun q => flat q = true ∧ Q q) :
    endQ P rs (treeQ Q) .ret st := by
  obtain ⟨ps, h1, q, h2, h3, h4⟩ := h
  exact end_tree d h1 h2 h3 h4

theorem isV_def (x r : PV) : isV x r = (r = x) := rfl
attribute [go_sem] isV_def
theorem tupP_1 (p : PV) : tupP [p] = p := rfl
theorem tupP_2 (p q : PV) (l : List PV) : tupP (p :: q :: l) = .tup (p :: q :: l) := rfl
attribute [go_sem] flat_val flat_sl flat_rp flat_agg flat_tup flat_fn flat_ref flat_ptr flatL_nil flatL_cons closed_val closed_ref closed_agg closed_tup closedL_nil closedL_cons
  view_sl view_rp view_agg view_nil view_int view_bool view_str view_fn view_aggv view1_sl view1_nil view1_int view1_bool view1_str frz_zero frz_ref frz_agg frz_tup frz_val frz_sl tupP_1 tupP_2

end Go.Proofs.Ytfjdfnlkobeehaa

namespace Go.Proofs.Ytfjdfnlkobeehaa

variable {P : Program}

section
variable {ops : Array Oper} {K : PS → Prop} {st s : PS}

def dK (P : Program) (ops : Array Oper) (K : PS → Prop) (js : List Nat) (r : List (Nat × List Nat)) (s : PS) : Prop := again P ops js s ∧ pD P ops K r s
def pDo (P : Program) (ops : Array Oper) (K : PS → Prop) (js : List Nat) (r : List (Nat × List Nat)) (o : Option Oper) (st : PS) : Prop := match o with
  | some o => pOps P ops (dK P ops K js r) [o] st
  | none => False
def againO (P : Program) (ops : Array Oper) (s : PS) (o : Option Oper) : Prop := match o with
  | some o => pOps P ops (stillAt o.dst s) [o] s
  | none => False
theorem pD_nil : pD P ops K [] st = K st := rfl
theorem pD_cons (i : Nat) (js : List Nat) (r : List (Nat × List Nat)) : pD P ops K ((i, js) :: r) st = pDo P ops K js r ops[i]? st := by
  simp only [pD, pDo]; cases ops[i]? <;> rfl
theorem pDo_some (o : Oper) (js : List Nat) (r : List (Nat × List Nat)) : pDo P ops K js r (some o) st = pOps P ops (dK P ops K js r) [o] st := rfl
theorem dK_nil (r : List (Nat × List Nat)) : dK P ops K [] r s = pD P ops K r s := by simp [dK, again]
theorem dK_cons (j : Nat) (js : List Nat) (r : List (Nat × List Nat)) : dK P ops K (j :: js) r s = (againO P ops s ops[j]? ∧ dK P ops K js r s) := by
  simp only [dK, again, againO, and_assoc]; cases ops[j]? <;> rfl
theorem againO_some (o : Oper) : againO P ops s (some o) = pOps P ops (stillAt o.dst s) [o] s := rfl
theorem stillAt_none : stillAt none s st = True := rfl
theorem stillAt_some (d : Nat) : stillAt (some d) s st = (st.sl d = s.sl d) := rfl

@[congr] theorem dK_congr {js : List Nat} {r : List (Nat × List Nat)} (h : st = s) : dK P ops K js r st = dK P ops K js r s := by rw [h]
@[congr] theorem pDo_congr {js : List Nat} {r : List (Nat × List Nat)} {o o' : Option Oper} (ho : o = o') : pDo P ops K js r o st = pDo P ops K js r o' st := by rw [ho]
@[congr] theorem againO_congr {o o' : Option Oper} (ho : o = o') : againO P ops s o = againO P ops s o' := by rw [ho]
end
theorem get_arr (l : List Oper) (i : Nat) : l.toArray[i]? = l[i]? := by simp
theorem get_zero (o : Oper) (l : List Oper) : (o :: l)[0]? = some o := rfl
theorem get_succ (o : Oper) (l : List Oper) (i : Nat) : (o :: l)[i + 1]? = l[i]? := by simp
theorem catget_zero (o : Oper) (l m : List Oper) : (List.append (o :: l) m)[0]? = some o := rfl
theorem catget_succ (o : Oper) (l m : List Oper) (i : Nat) : (List.append (o :: l) m)[i + 1]? = (List.append l m)[i]? := by simp
theorem catget_nil (m : List Oper) (i : Nat) : (List.append [] m)[i]? = m[i]? := rfl
attribute [go_sem ↓] pD_nil pD_cons pDo_some dK_nil dK_cons againO_some get_arr get_zero get_succ catget_zero catget_succ catget_nil
attribute [go_sem] stillAt_none stillAt_some

theorem sliceP_ref0 {sz id off n cap z hi : Nat} (h : hi ≤ cap) : sliceP sz (.ref id off n cap z) 0 hi = some (.ref id off hi cap z) := by
  simp [sliceP, h]
theorem sliceP_ref {sz id off n cap z lo hi : Nat} (h : lo ≤ hi ∧ hi ≤ cap) : sliceP sz (.ref id off n cap z) lo hi = some (.ref id (if cap = lo then off else off + lo * sz) (hi - lo) (cap - lo) z) := by
  simp [sliceP, h]
theorem sliceP_nil {sz : Nat} : sliceP sz (.val (.slice none 0 0)) 0 0 = some (.val (.slice none 0 0)) := by simp [sliceP]
attribute [go_sem] sliceP_ref0 sliceP_nil
attribute [go_sem low] sliceP_ref

theorem cast_nonneg (n : Nat) : (0 ≤ (n : Int)) = True := by simp
attribute [go_sem] cast_nonneg
theorem min_left' {a b : Nat} (h : a ≤ b) : min a b = a := Nat.min_eq_left h
theorem min_right' {a b : Nat} (h : b ≤ a) : min a b = b := Nat.min_eq_right h
attribute [go_sem] min_left' min_right'

section
variable (a b n : Nat)
theorem cast_add : (a : Int) + (b : Int) = ((a + b : Nat) : Int) := by omega
theorem cast_mul : (a : Int) * (b : Int) = ((a * b : Nat) : Int) := by simp
theorem cast_div : (a : Int) / (b : Int) = ((a / b : Nat) : Int) := by simp
theorem cast_mod : (a : Int) % (b : Int) = ((a % b : Nat) : Int) := by simp
theorem cast_addn : (a : Int) + no_index (@OfNat.ofNat Int n _) = ((a + @OfNat.ofNat Nat n _ : Nat) : Int) := by rw [Int.natCast_add]; rfl
theorem cast_muln : (a : Int) * no_index (@OfNat.ofNat Int n _) = ((a * @OfNat.ofNat Nat n _ : Nat) : Int) := by rw [Int.natCast_mul]; rfl
theorem cast_divn : (a : Int) / no_index (@OfNat.ofNat Int n _) = ((a / @OfNat.ofNat Nat n _ : Nat) : Int) := by rw [Int.natCast_ediv]; rfl
theorem cast_modn : (a : Int) % no_index (@OfNat.ofNat Int n _) = ((a % @OfNat.ofNat Nat n _ : Nat) : Int) := by rw [Int.natCast_emod]; rfl
theorem cast_nadd : no_index (@OfNat.ofNat Int n _) + (a : Int) = ((@OfNat.ofNat Nat n _ + a : Nat) : Int) := by rw [Int.natCast_add]; rfl
theorem cast_nmul : no_index (@OfNat.ofNat Int n _) * (a : Int) = ((@OfNat.ofNat Nat n _ * a : Nat) : Int) := by rw [Int.natCast_mul]; rfl
theorem cast_sub {a b : Nat} (h : b ≤ a) : (a : Int) - (b : Int) = ((a - b : Nat) : Int) := by omega
theorem cast_subn {a n : Nat} (h : @OfNat.ofNat Nat n _ ≤ a) : (a : Int) - no_index (@OfNat.ofNat Int n _) = ((a - @OfNat.ofNat Nat n _ : Nat) : Int) := (cast_sub h)
end
attribute [go_sem low] cast_add cast_mul cast_div cast_mod cast_sub
attribute [go_sem] cast_addn cast_muln cast_divn cast_modn cast_nadd cast_nmul cast_subn

theorem planAt_cons (i j : Nat) (p : List (Nat × List Nat)) (l : List (Nat × List (Nat × List Nat))) : planAt ((i, p) :: l) j = if i = j then p else planAt l j := rfl
attribute [go_sem] planAt_cons
@[congr] theorem pD_congr2 {ops : Array Oper} {K : PS → Prop} {l l' : List (Nat × List Nat)} {st s : PS} (hl : l = l') (h : st = s) : pD P ops K l st = pD P ops K l' s := by rw [h, hl]

end Go.Proofs.Ytfjdfnlkobeehaa
end
