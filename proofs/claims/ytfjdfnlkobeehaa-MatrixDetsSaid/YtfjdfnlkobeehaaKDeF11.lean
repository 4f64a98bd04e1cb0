/- Part 11 of the way to the statement: the walk and what it needs. -/
import Derived.Test.YtfjdfnlkobeehaaKDeF10
import Derived.Deep.Upon
import Derived.Laws.CopyRow
import Derived.Laws.IdiomCopy
section
set_option linter.unusedVariables false
set_option linter.unusedSimpArgs false
namespace Go.Proofs.Ytfjdfnlkobeehaa

variable {P : Program}


def Nx (c : Cx) (K : PS → Prop) : Act → World → Prop := fun a w => ∃ st, K st ∧ R c st a w

theorem upon_val {o : Oper} {a : Act} {w w' : World} {v : Value} {K : Act → World → Prop} {Q : Exit → Act → World → Prop}
    (h : (execOp a.eval o).run P w = .ok (.value v) w') (hk : K (a.put o.dst v) w') : o.wp P a w K Q := by
  unfold Oper.wp; rw [h]; exact hk

theorem upon_skip {o : Oper} {a : Act} {w w' : World} {K : Act → World → Prop} {Q : Exit → Act → World → Prop}
    (h : (execOp a.eval o).run P w = .ok .skip w') (hk : K (a.put o.dst undef) w') : o.wp P a w K Q := by
  unfold Oper.wp; rw [h]; exact hk

theorem run_val {s : Sem Value} {v : Value} {w w' : World} (h : s.run P w = .ok v w') : (do pure (.value (← s)) : Sem Next).run P w = .ok (.value v) w' := by
  simp [h]

theorem quiet_wp {c : Cx} {st : PS} {a : Act} {w : World} {ρ : Nat → Nat} (h : Rr c st a w ρ) {o : Oper} (hd : ∀ x, o.dst = some x → x < c.n) {K : PS → Prop} {Q : Exit → Act → World → Prop}
    (hp : ∃ p, qv P st o.op = some p ∧ K (st.put o.dst p)) : o.wp P a w (Nx c K) Q := by
  obtain ⟨p, hq, hK⟩ := hp
  obtain ⟨v, hv, hr⟩ := qv_sound h o hq
  exact upon_val hv ⟨_, hK, ρ, h.put hd hr⟩

theorem store_wp {c : Cx} {st : PS} {a : Act} {w : World} {ρ : Nat → Nat} (h : Rr c st a w ρ) {o : Oper} (hd : ∀ x, o.dst = some x → x < c.n) {K : PS → Prop} {Q : Exit → Act → World → Prop}
    {t : TypeId} {x y : Operand} (ho : o.op = .store t x y) (hp : pStore P st t (st.ev x) (st.ev y) fun st' => K (st'.put o.dst (.val undef))) : o.wp P a w (Nx c K) Q := by
  obtain ⟨n, hs, hn, id, off, hx, cs, hc, hlen, hcl, hone, hK⟩ := hp
  have hrx := h.ev x
  rw [hx] at hrx
  simp only [Rep] at hrx
  obtain ⟨hid, hvx⟩ := hrx
  have hcr := cells_rep (h.ev y) (isAny_of_one hone)
  have hne : cs ≠ [] := fun e => by subst e; simp at hlen; omega
  obtain ⟨us, e, hb, hr⟩ := h.own.blk id cs hc hne
  have hsz : (a.eval y).cells.size = n := by rw [← hcl, RepL.length hcr]; simp
  have hul := RepL.length hr
  have hrun := storeVar_run (P := P) (o := off) hs hb hsz (by simp at hul; omega) (oneP_repL hcr hone)
  have hheap := setCells_heap (ρ id) (a.eval y).cells.toList off w us hb (by simp at hul; simp [hsz]; omega)
  have hspl : RepL (enOf c.A0 w ρ st.H st.it st.nx) (spl cs off (cellsP (st.ev y))) (spl us.toList off (a.eval y).cells.toList) := RepL.spl off hr hcr
  have hne' : spl cs off (cellsP (st.ev y)) ≠ [] := fun e => by
    have := spl_length (cs := cs) (new := cellsP (st.ev y)) (off := off) (by omega)
    rw [e] at this; simp at this; omega
  refine upon_skip (w' := w.setCells (ρ id) off (a.eval y).cells.toList) ?_ ⟨_, hK, ρ, (h.set hc hne (vs := (spl us.toList off (a.eval y).cells.toList).toArray) (by simpa using hspl) hne' hheap (setCells_sw _ _ _ _)).put hd (by simp [Rep])⟩
  simp only [execOp, ho, hvx, Instr.storeAt, Instr.sureAddr, Sem.run_bind, Sem.run_pure, Result.andThen_ok, hrun]

theorem alloc_wp {c : Cx} {st : PS} {a : Act} {w : World} {ρ : Nat → Nat} (h : Rr c st a w ρ) {o : Oper} (hd : ∀ x, o.dst = some x → x < c.n) {K : PS → Prop} {Q : Exit → Act → World → Prop}
    {e : TypeId} (ho : o.op = .alloc e) (hp : pAlloc P st e fun r st' => K (st'.put o.dst r)) : o.wp P a w (Nx c K) Q := by
  obtain ⟨z, hz, hK⟩ := hp
  obtain ⟨v, hv, rfl⟩ := zeroT_run hz w
  refine upon_val (v := .pointer (some ⟨w.heap.size, 0, none⟩)) (w' := { w with heap := w.heap.push (.cells v.cells e (0, 0)) }) ?_ ⟨_, hK, h.newPut (e := e) (RepL.vals _) rfl hd (.inl ⟨0, rfl, rfl⟩)⟩
  simp [execOp, ho, Instr.alloc, hv, newVar, newRow]

theorem box_wp {c : Cx} {st : PS} {a : Act} {w : World} {ρ : Nat → Nat} (h : Rr c st a w ρ) {o : Oper} (hd : ∀ x, o.dst = some x → x < c.n) {K : PS → Prop} {Q : Exit → Act → World → Prop}
    {e : TypeId} {x : Operand} (ho : o.op = .box e x) (hp : pBox st (st.ev x) fun r st' => K (st'.put o.dst r)) : o.wp P a w (Nx c K) Q := by
  obtain ⟨hx, hK⟩ := hp
  refine upon_val (v := .pointer (some ⟨w.heap.size, 0, none⟩)) (w' := { w with heap := w.heap.push (.cells (a.eval x).cells e (0, 0)) }) ?_ ⟨_, hK, h.newPut (e := e) (cells_rep (h.ev x) hx) rfl hd (.inl ⟨0, rfl, rfl⟩)⟩
  simp [execOp, ho, Instr.box, newVar, newRow]

theorem make_wp {c : Cx} {st : PS} {a : Act} {w : World} {ρ : Nat → Nat} (h : Rr c st a w ρ) {o : Oper} (hd : ∀ x, o.dst = some x → x < c.n) {K : PS → Prop} {Q : Exit → Act → World → Prop}
    {t : TypeId} {x y : Operand} (ho : o.op = .makeSlice t x y) (hp : pMake P st t (st.ev x) (st.ev y) fun r st' => K (st'.put o.dst r)) : o.wp P a w (Nx c K) Q := by
  obtain ⟨e, he, sz, hs, b, hb, z, hz, hzl, k, n, k', m, hx, hy, h0, hnm, hbm, hm, hK⟩ := hp
  obtain ⟨i, v, hi, rfl, rfl, hv, rfl⟩ := info_all hb hs hz
  have h1 := h.ev x
  have h2 := h.ev y
  rw [hx] at h1; rw [hy] at h2
  simp only [Rep] at h1 h2
  have hrun := run_make (P := P) w t e i v (elemT_some he) hi hv k k' n m h0 hnm hbm (by omega)
  refine upon_val (v := .slice (some ⟨w.heap.size, 0, none⟩) n.toNat m.toNat) (w' := w.alloc (.cells (madeCells v.cells (m.toNat * i.size)) e)) (by
      simp only [execOp, ho, h1, h2]; exact run_val hrun)
    ⟨_, hK, h.newPut (e := e) (vs := madeCells v.cells (m.toNat * i.size)) ?_ rfl hd (.inr ⟨0, _, _, _, by omega, rfl, rfl⟩)⟩
  rw [made_eq (by simpa using hzl), repl_map]
  exact RepL.vals _

theorem buildSlice_wp {c : Cx} {st : PS} {a : Act} {w : World} {ρ : Nat → Nat} (h : Rr c st a w ρ) {o : Oper} (hd : ∀ x, o.dst = some x → x < c.n) {K : PS → Prop} {Q : Exit → Act → World → Prop}
    {t : TypeId} {n : Nat} {parts : Array (Nat × Operand)} (ho : o.op = .buildSlice t n parts) (hp : pBuildSlice P st t n parts.toList fun r st' => K (st'.put o.dst r)) : o.wp P a w (Nx c K) Q := by
  obtain ⟨e, he, sz, hs, hsz, z, hz, hzl, cs, hf, hK⟩ := hp
  obtain ⟨v, hv, rfl⟩ := zeroT_run hz w
  have hmade : (madeCells v.cells (n * sz)).toList = repl n v.cells.toList := made_eq (by simpa using hzl) n
  have h0 : RepL (enOf c.A0 w ρ st.H st.it st.nx) (repl n (v.cells.toList.map .val)) (madeCells v.cells (n * sz)).toList := by
    rw [hmade, repl_map]; exact RepL.vals _
  obtain ⟨us, hfill, hus⟩ := fillP_sound h parts.toList _ _ cs h0 hf
  refine upon_val (v := .slice (some ⟨w.heap.size, 0, none⟩) n n) (w' := { w with heap := w.heap.push (.cells us.toArray e (0, 0)) }) ?_ ⟨_, hK, h.newPut (e := e) (vs := us.toArray) (by simpa using hus) rfl hd (.inr ⟨0, n, n, sz, by omega, rfl, rfl⟩)⟩
  have hp : (parts.map fun (i, x) => (i, a.eval x)).toList = parts.toList.map fun p => (p.1, a.eval p.2) := by simp
  have hbig : ¬ (n * sz > 2 ^ 24) := by omega
  rw [show (madeCells v.cells (n * sz)).toList.toArray = madeCells v.cells (n * sz) from by simp] at hfill
  simp only [execOp, ho]
  apply run_val
  simp only [Instr.buildSlice, Sem.run_bind, run_underlying (elemT_some he), Result.andThen_ok, sizeT_some hs, if_neg hbig, hp]
  by_cases hn : n * sz = 0
  · have e0 : madeCells v.cells (n * sz) = (Array.range (n * sz)).map fun i => (#[] : Array Value)[i % (#[] : Array Value).size]! := by
      rw [hn]; simp [madeCells]
    rw [e0] at hfill
    simp only [hn, if_true, Sem.run_pure, Result.andThen_ok, Sem.run_bind] at hfill ⊢
    rw [hfill]
    simp [newRow]
  · simp only [if_neg hn, Sem.run_bind, hv, Result.andThen_ok, Sem.run_pure]
    unfold madeCells at hfill
    rw [hfill]
    simp [newRow]


theorem srcP_sound {c : Cx} {st : PS} {a : Act} {w : World} {ρ : Nat → Nat} (h : Rr c st a w ρ) {t e : TypeId} {sz m : Nat} {y : Operand} {ys : List PV} (ht : elemT P t = some e)
    (hs : srcP st.H sz (st.ev y) = some (m, ys)) (hone : ys.all oneP = true) : ∃ us, RepL (enOf c.A0 w ρ st.H st.it st.nx) ys us ∧ Src P sz t (a.eval y) m us w := by
  have hk : ∃ e', P.underlying t = some (.slice e') := ⟨e, elemT_some ht⟩
  have hy := h.ev y
  have fin : ∀ b o n cap (cs : List PV), a.eval y = .slice (some ⟨b, o, none⟩) n cap → Row (enOf c.A0 w ρ st.H st.it st.nx) b o cs → cs.length = n * sz → cs.all oneP = true →
      ∃ us, RepL (enOf c.A0 w ρ st.H st.it st.nx) cs us ∧ Src P sz t (a.eval y) n us w := by
    intro b o n cap cs hv hr hl ho
    obtain ⟨us, hus, hc⟩ := Row.vals hr
    refine ⟨us, hus, ?_⟩
    rw [hv]
    refine Src.ofSlice w (elemT_some ht) _ n cap us (by rw [← RepL.length hus]; exact hl) (fun j u hj => ?_) (oneP_repL hus ho)
    rw [addr_add, hc j (List.getElem?_eq_some_iff.1 hj).1]; exact hj
  cases hyy : st.ev y with
  | val x =>
    rw [hyy] at hs hy
    simp only [Rep] at hy
    cases x with
    | slice b n cap =>
      cases b with
      | some b => simp [srcP] at hs
      | none =>
        cases n with
        | succ n => simp [srcP] at hs
        | zero =>
          cases cap with
          | succ n => simp [srcP] at hs
          | zero =>
            simp [srcP] at hs
            obtain ⟨rfl, rfl⟩ := hs
            exact ⟨[], by simp [RepL], by rw [hy]; exact Src.ofNil w (elemT_some ht) 0⟩
    | _ => simp [srcP] at hs
  | sl n cs =>
    rw [hyy] at hs hy
    simp only [srcP] at hs
    split at hs
    · rename_i hl
      simp at hs
      obtain ⟨rfl, rfl⟩ := hs
      simp only [Rep] at hy
      rcases hy with ⟨rfl, rfl, ad, hv⟩ | ⟨b, o, cap, hv, _, hy⟩
      · refine ⟨[], by simp [RepL], ?_⟩
        rw [hv]
        cases ad with
        | none => exact Src.ofNil w (elemT_some ht) 0
        | some ad => exact Src.ofSlice w (elemT_some ht) ad 0 0 [] (by simp) (fun j u hj => by simp at hj) (fun u hu => by simp at hu)
      · refine fin b o n cap cs hv ?_ hl hone
        rcases hy with hy | ⟨_, hy⟩
        · subst hy; simp [Row]
        · exact hy
    · simp at hs
  | ref id off n cap z =>
    rw [hyy] at hs hy
    simp only [srcP] at hs
    cases hc : st.H id with
    | none => simp [hc] at hs
    | some cs =>
      simp only [hc] at hs
      split at hs
      · rename_i hl
        simp at hs
        obtain ⟨rfl, rfl⟩ := hs
        simp only [Rep] at hy
        obtain ⟨_, _, hv | ⟨rfl, rfl, hv⟩⟩ := hy
        · refine fin (ρ id) off n cap _ hv ?_ (by simp; omega) hone
          rcases h.row hc off with hx | hx
          · rw [hx]; simp [Row]
          · exact Row.take _ hx
        · exact ⟨[], by simp [RepL], by rw [hv]; exact Src.ofNil w (elemT_some ht) 0⟩
      · simp at hs
  | _ => rw [hyy] at hs; simp [srcP] at hs


theorem srcC_sound {c : Cx} {st : PS} {a : Act} {w : World} {ρ : Nat → Nat} (h : Rr c st a w ρ) {m : Nat} {y : Operand} {ys : List PV}
    (hs : srcP st.H 1 (st.ev y) = some (m, ys)) (hone : ys.all oneP = true) : ∃ us sp cap, a.eval y = .slice sp m cap ∧ RepL (enOf c.A0 w ρ st.H st.it st.nx) ys us ∧ us.length = m ∧ (∀ u ∈ us, u.oneCell' = true) ∧
      (0 < m → ∃ ad, sp = some ad ∧ ∀ j u, us[j]? = some u → w.cell? (ad.add j) = some u) := by
  have hy := h.ev y
  have fin : ∀ b o n cap (cs : List PV), a.eval y = .slice (some ⟨b, o, none⟩) n cap → Row (enOf c.A0 w ρ st.H st.it st.nx) b o cs → cs.length = n → cs.all oneP = true →
      ∃ us sp cap, a.eval y = .slice sp n cap ∧ RepL (enOf c.A0 w ρ st.H st.it st.nx) cs us ∧ us.length = n ∧ (∀ u ∈ us, u.oneCell' = true) ∧ (0 < n → ∃ ad, sp = some ad ∧ ∀ j u, us[j]? = some u → w.cell? (ad.add j) = some u) := by
    intro b o n cap cs hv hr hl ho
    obtain ⟨us, hus, hc⟩ := Row.vals hr
    refine ⟨us, _, cap, hv, hus, by rw [← RepL.length hus]; exact hl, oneP_repL hus ho, fun _ => ⟨_, rfl, fun j u hj => ?_⟩⟩
    rw [addr_add, hc j (List.getElem?_eq_some_iff.1 hj).1]; exact hj
  have nil : ∀ cap, a.eval y = .slice none 0 cap → ∃ us sp cap, a.eval y = .slice sp 0 cap ∧ RepL (enOf c.A0 w ρ st.H st.it st.nx) [] us ∧ us.length = 0 ∧ (∀ u ∈ us, u.oneCell' = true) ∧ (0 < 0 → ∃ ad, sp = some ad ∧ ∀ j u, us[j]? = some u → w.cell? (ad.add j) = some u) :=
    fun cap hv => ⟨[], _, cap, hv, by simp [RepL], rfl, by simp, fun h => absurd h (Nat.lt_irrefl _)⟩
  cases hyy : st.ev y with
  | val x =>
    rw [hyy] at hs hy
    simp only [Rep] at hy
    cases x with
    | slice b n cap =>
      cases b with
      | some b => simp [srcP] at hs
      | none =>
        cases n with
        | succ n => simp [srcP] at hs
        | zero =>
          cases cap with
          | succ n => simp [srcP] at hs
          | zero =>
            simp [srcP] at hs
            obtain ⟨rfl, rfl⟩ := hs
            exact nil 0 hy
    | _ => simp [srcP] at hs
  | sl n cs =>
    rw [hyy] at hs hy
    simp only [srcP] at hs
    split at hs
    · rename_i hl
      simp at hs
      obtain ⟨rfl, rfl⟩ := hs
      simp only [Rep] at hy
      rcases hy with ⟨rfl, rfl, ad, hv⟩ | ⟨b, o, cap, hv, _, hy⟩
      · exact ⟨[], _, 0, hv, by simp [RepL], rfl, by simp, fun h => absurd h (Nat.lt_irrefl _)⟩
      · refine fin b o n cap cs hv ?_ (by omega) hone
        rcases hy with hy | ⟨_, hy⟩
        · subst hy; simp [Row]
        · exact hy
    · simp at hs
  | ref id off n cap z =>
    rw [hyy] at hs hy
    simp only [srcP] at hs
    cases hc : st.H id with
    | none => simp [hc] at hs
    | some cs =>
      simp only [hc] at hs
      split at hs
      · rename_i hl
        simp at hs
        obtain ⟨rfl, rfl⟩ := hs
        simp only [Rep] at hy
        obtain ⟨_, _, hv | ⟨rfl, rfl, hv⟩⟩ := hy
        · refine fin (ρ id) off n cap _ hv ?_ (by simp; omega) hone
          rcases h.row hc off with hx | hx
          · rw [hx]; simp [Row]
          · exact Row.take _ hx
        · exact nil 0 hv
      · simp at hs
  | _ => rw [hyy] at hs; simp [srcP] at hs

theorem setRow_set (w : World) (g : Nat) (old cs : Array Value) (t : TypeId) (fr : Nat × Nat) (hg : w.heap[g]? = some (.cells old t fr)) : (w.setRow g cs).heap = w.heap.setIfInBounds g (.cells cs t fr) := by
  apply Array.ext_getElem?
  intro i
  unfold World.setRow
  simp only []
  rw [Array.getElem?_modify, Array.getElem?_setIfInBounds]
  by_cases hi : g = i
  · subst hi
    have hlt : g < w.heap.size := (Array.getElem?_eq_some_iff.1 hg).1
    have he := (Array.getElem?_eq_some_iff.1 hg).2
    simp [hlt, he]
  · simp [hi]

theorem copy_wp {c : Cx} {st : PS} {a : Act} {w : World} {ρ : Nat → Nat} (h : Rr c st a w ρ) {o : Oper} (hd : ∀ x, o.dst = some x → x < c.n) {K : PS → Prop} {Q : Exit → Act → World → Prop}
    {t t' : TypeId} {x y : Operand} (ho : o.op = .call ⟨.builtin .copy, #[x, y], #[t, t']⟩) (hp : pCopy P st t (st.ev x) (st.ev y) fun r st' => K (st'.put o.dst r)) : o.wp P a w (Nx c K) Q := by
  obtain ⟨e, he, hs, m, ys, hsrc, hone, hx⟩ := hp
  have hs' : (P.info? e).map (·.size) = some 1 := by simpa [sizeT] using hs
  obtain ⟨us, sp, scap, hy, hus, hul, hu1, hcell⟩ := srcC_sound h hsrc hone
  have hev := h.ev x
  split at hx
  · rename_i id off n cap z hxx
    rw [hxx] at hev
    obtain ⟨cs, hc, hlen, hK⟩ := hx
    have hev' := hev
    simp only [Rep] at hev'
    obtain ⟨hid, hle, hval⟩ := hev'
    by_cases hk : Nat.min m n = 0
    · have hst : ({ st with H := upd st.H id (some (spl cs off (ys.take (Nat.min m n)))) } : PS) = st := by
        have : upd st.H id (some (spl cs off (ys.take (Nat.min m n)))) = st.H := by
          funext j
          by_cases hj : j = id
          · subst hj; rw [upd_self, hc, hk]; simp [spl]
          · rw [upd_ne _ _ hj]
        rw [this]
      rw [hst, hk] at hK
      obtain ⟨bx, hbx⟩ : ∃ bx, a.eval x = .slice bx n cap := by
        rcases hval with hv | ⟨rfl, rfl, hv⟩
        · exact ⟨_, hv⟩
        · exact ⟨_, hv⟩
      have hrun := run_copy_none (P := P) w t t' o.type e bx sp n cap m scap (elemT_some he) hs' hk
      refine upon_val (w' := w) (v := goInt 0) ?_ ⟨_, hK, ρ, h.put hd (by simp [Rep, goInt])⟩
      simp only [execOp, ho, resolve, Sem.run_bind, Sem.run_pure, Result.andThen_ok, invoke, builtin, List.map_toArray, List.map_cons, List.map_nil, hbx, hy]
      rw [hrun]; rfl
    · have hm : 0 < m := Nat.pos_of_ne_zero fun e => hk (by rw [e]; exact Nat.zero_min n)
      have hn : 0 < n := Nat.pos_of_ne_zero fun e => hk (by rw [e]; exact Nat.min_zero m)
      rcases hval with hval | ⟨rfl, rfl, hval⟩
      · obtain ⟨ad, rfl, hcell2⟩ := hcell hm
        have hne : cs ≠ [] := by rintro rfl; simp at hlen; omega
        obtain ⟨vs, e2, hbk, hr⟩ := h.own.blk id cs hc hne
        have hvl := RepL.length hr
        have hmn : Nat.min m n ≤ n := Nat.min_le_right m n
        have hmm : Nat.min m n ≤ m := Nat.min_le_left m n
        have hk1 : (us.take (Nat.min m n)).length = Nat.min m n := List.length_take_of_le (by omega)
        have hk2 : (ys.take (Nat.min m n)).length = Nat.min m n := List.length_take_of_le (by rw [RepL.length hus]; omega)
        have hvs : vs.toList.length = vs.size := by simp
        have hrun := run_copy_row (P := P) w t t' o.type e (ρ id) off n cap ad m scap vs e2 (us.take (Nat.min m n)) (elemT_some he) hs' hbk hk1 (fun j v hj => hcell2 j v (by
            rw [List.getElem?_take] at hj
            split at hj
            · exact hj
            · simp at hj)) (by rw [hk1]; omega) (fun v hv => hu1 v (List.mem_of_mem_take hv))
        have hspl : RepL (enOf c.A0 w ρ st.H st.it st.nx) (spl cs off (ys.take (Nat.min m n))) (spl vs.toList off (us.take (Nat.min m n))) := RepL.spl _ hr (RepL.take _ hus)
        have hne' : spl cs off (ys.take (Nat.min m n)) ≠ [] := fun e => by
          have h1 := spl_length (cs := cs) (new := ys.take (Nat.min m n)) (off := off) (by rw [hk2]; omega)
          rw [e] at h1
          exact hne (List.eq_nil_of_length_eq_zero h1.symm)
        have e3 : vs.toList.take off ++ us.take (Nat.min m n) ++ vs.toList.drop (off + (us.take (Nat.min m n)).length) = spl vs.toList off (us.take (Nat.min m n)) := by
          unfold spl; rw [List.append_assoc]
        rw [e3, hk1] at hrun
        refine upon_val (w' := w.setRow (ρ id) (spl vs.toList off (us.take (Nat.min m n))).toArray) (v := goInt (Nat.min m n)) ?_
          ⟨_, hK, ρ, (h.set hc hne (vs := (spl vs.toList off (us.take (Nat.min m n))).toArray) (by simpa using hspl) hne' (setRow_set w (ρ id) vs _ e2 (0, 0) hbk) ⟨rfl, rfl, rfl⟩).put hd ?_⟩
        · simp only [execOp, ho, resolve, Sem.run_bind, Sem.run_pure, Result.andThen_ok, invoke, builtin, List.map_toArray, List.map_cons, List.map_nil, hval, hy]
          rw [hrun]; rfl
        · simp [Rep, goInt]
      · omega
  · exact hx.elim

theorem grow_wp {c : Cx} {st : PS} {a : Act} {w : World} {ρ : Nat → Nat} (h : Rr c st a w ρ) {o : Oper} (hd : ∀ x, o.dst = some x → x < c.n) {K : PS → Prop} {Q : Exit → Act → World → Prop}
    {t t' ty e : TypeId} {x y : Operand} {i : TypeInfo} {z : Value} (ho : o.op = .call ⟨.builtin .append, #[x, y], #[t, t']⟩) (he : elemT P t = some e) (hi : P.info? e = some i) (hz : i.zero = some z)
    (hzl : z.cells.size = i.size) {b : Option Addr} {n cap m : Nat} (hv : a.eval x = .slice b n cap) {olds : List Value} {os : List PV} (hos : RepL (enOf c.A0 w ρ st.H st.it st.nx) os olds)
    (hold : ∀ w' : World, w'.heap = w.heap → (Builtin.firstCells i.size n (.slice b n cap)).run P w' = .ok olds.toArray w') {us : List Value} {ys : List PV} (hus : RepL (enOf c.A0 w ρ st.H st.it st.nx) ys us)
    (hsrc : Src P i.size t' (a.eval y) m us w) (hg : cap < n + m) (hb : (n + m) * i.bytes ≤ 140737488355328) (hm : n + m ≤ 140737488355328)
    (hK : pGrow st i.size (n + m) (os ++ ys) fun r st' => K (st'.put o.dst r)) : o.wp P a w (Nx c K) Q := by
  have hrun := run_append_grow_src (P := P) w t t' o.type e i z (elemT_some he) hi hz b n cap olds (hold w.drew rfl) (a.eval y) m us hsrc hg (by omega) (growslice_fits hg hb)
  have hcap : n + m ≤ grownCap w (n + m) cap e ∧ grownCap w (n + m) cap e < 9223372036854775808 := by
    unfold grownCap Question.cut
    simp only []
    have : 0 < 2 ^ 63 - (n + m) := by omega
    have := Nat.mod_lt (w.tape w.drawn (.appendCap (n + m) cap e)) this
    omega
  refine upon_val (w' := w.drew.alloc (.cells ((olds ++ us).toArray ++ Builtin.zeroCells z.cells (grownCap w (n + m) cap e - (n + m))) e)) (v := .slice (some ⟨w.heap.size, 0, none⟩) (n + m) (grownCap w (n + m) cap e)) ?_ ?_
  · simp only [execOp, ho, resolve, Sem.run_bind, Sem.run_pure, Result.andThen_ok, invoke, builtin, List.map_toArray, List.map_cons, List.map_nil, hv]
    rw [hrun]; rfl
  · have hlen : (Builtin.zeroCells z.cells (grownCap w (n + m) cap e - (n + m))).toList.length = (grownCap w (n + m) cap e - (n + m)) * i.size := by
      simp [Builtin.zeroCells, hzl]
    have hK' := hK _ _ hcap.1 hcap.2 hlen
    refine ⟨_, hK', h.newPut (e := e) (vs := (olds ++ us).toArray ++ Builtin.zeroCells z.cells (grownCap w (n + m) cap e - (n + m))) ?_ rfl hd (.inr ⟨0, _, _, _, hcap.1, rfl, rfl⟩)⟩
    simp only [Array.toList_append]
    exact RepL.append (RepL.append hos hus) (RepL.vals _)

theorem append_wp {c : Cx} {st : PS} {a : Act} {w : World} {ρ : Nat → Nat} (h : Rr c st a w ρ) {o : Oper} (hd : ∀ x, o.dst = some x → x < c.n) {K : PS → Prop} {Q : Exit → Act → World → Prop}
    {t t' : TypeId} {x y : Operand} (ho : o.op = .call ⟨.builtin .append, #[x, y], #[t, t']⟩) (hp : pAppend P st t t' (st.ev x) (st.ev y) fun r st' => K (st'.put o.dst r)) : o.wp P a w (Nx c K) Q := by
  obtain ⟨e, he, he', sz, hs, b, hb, z, hz, hzl, m, ys, hsrc, hone, hx⟩ := hp
  obtain ⟨e', he'⟩ := Option.isSome_iff_exists.1 he'
  obtain ⟨i, v, hi, rfl, rfl, hv, rfl⟩ := info_all hb hs hz
  obtain ⟨us, hus, hsr⟩ := srcP_sound h he' hsrc hone
  have hev := h.ev x
  have hmlen : us.length = m * i.size := hsr.newsLen
  have hupd : ∀ {id : Nat} (l : List PV), st.H id = some l → ({ st with H := upd st.H id (some l) } : PS) = st := by
    intro id l hl
    have : upd st.H id (some l) = st.H := by
      funext j
      by_cases hj : j = id
      · subst hj; rw [upd_self, hl]
      · rw [upd_ne _ _ hj]
    rw [this]
  split at hx
  · rename_i id off n cap z' hxx
    rw [hxx] at hev
    obtain ⟨cs, hc, hlen, hbb, hmm, hroom, hgrow⟩ := hx
    have hev' := hev
    simp only [Rep] at hev'
    obtain ⟨hid, hle, hval⟩ := hev'
    rcases Nat.lt_or_ge cap (n + m) with hg | hg
    · have hK := hgrow hg
      rcases hval with hval | ⟨rfl, rfl, hval⟩
      · have hrow : Row (enOf c.A0 w ρ st.H st.it st.nx) (ρ id) off ((cs.drop off).take (n * i.size)) := by
          rcases h.row hc off with hx | hx
          · rw [hx]; simp [Row]
          · exact Row.take _ hx
        obtain ⟨olds, hold, hcell⟩ := Row.vals hrow
        refine grow_wp (ty := o.type) h hd ho he hi hv (by simpa using hzl) hval hold (fun w' hw' => ?_) hus hsr hg hbb hmm hK
        have hol : olds.length = n * i.size := by rw [← RepL.length hold]; simp; omega
        have := run_firstCells_some (P := P) w' i.size n ⟨ρ id, off, none⟩ n cap olds hol (fun j u hj => by
          rw [addr_add, cell_congr (w := w) (by rw [hw'])]; exact (hcell j (List.getElem?_eq_some_iff.1 hj).1).trans hj)
        exact this
      · refine grow_wp (ty := o.type) h hd ho he hi hv (by simpa using hzl) hval (olds := []) (os := (cs.drop off).take (0 * i.size)) (by simp [RepL]) (fun w' hw' => run_firstCells_none (P := P) w' i.size 0 0 0) hus hsr hg hbb hmm hK
    · obtain ⟨hlen2, hK⟩ := hroom hg
      rcases hval with hval | ⟨rfl, rfl, hval⟩
      · by_cases hne : cs = []
        · 
          subst hne
          simp at hlen2
          have hm0 : m * i.size = 0 := by
            have := hlen2.2
            rw [Nat.add_mul] at hlen2; omega
          have hus0 : us = [] := List.eq_nil_of_length_eq_zero (by omega)
          have hys0 : ys = [] := List.eq_nil_of_length_eq_zero (by rw [RepL.length hus, hus0]; rfl)
          subst hus0; subst hys0
          have hrun := run_append_room_src (P := P) w t t' o.type e i (elemT_some he) hi (ρ id) off n cap (a.eval y) m [] hsr hg (by simp) (by simp)
          rw [hupd _ (by simp [hc, spl])] at hK
          refine upon_val (w' := w) (v := .slice (some ⟨ρ id, off, none⟩) (n + m) cap) ?_ ⟨_, hK, ρ, h.put hd (by simp only [Rep]; exact ⟨hid, hg, .inl trivial⟩)⟩
          simp only [execOp, ho, resolve, Sem.run_bind, Sem.run_pure, Result.andThen_ok, invoke, builtin, List.map_toArray, List.map_cons, List.map_nil, hval]
          rw [hrun]; rfl
        · obtain ⟨vs, e2, hbk, hr⟩ := h.own.blk id cs hc hne
          have hvl := RepL.length hr
          have hvl' : vs.size = cs.length := by simpa using hvl.symm
          have hbound : off + n * i.size + us.length ≤ vs.size := by rw [hmlen, hvl']; rw [Nat.add_mul] at hlen2; omega
          have hrun := run_append_room_src (P := P) w t t' o.type e i (elemT_some he) hi (ρ id) off n cap (a.eval y) m us hsr hg
            (fun j hj => by rw [cell_of hbk]; simp; omega) (fun j hj => by simp [World.frozen?, hbk])
          have hheap := setCells_heap (ρ id) us (off + n * i.size) w vs hbk hbound
          have hspl : RepL (enOf c.A0 w ρ st.H st.it st.nx) (spl cs (off + n * i.size) ys) (spl vs.toList (off + n * i.size) us) := RepL.spl _ hr hus
          have hne' : spl cs (off + n * i.size) ys ≠ [] := fun e => by
            have h1 := spl_length (cs := cs) (new := ys) (off := off + n * i.size) (by rw [RepL.length hus]; omega)
            rw [e] at h1
            exact hne (List.eq_nil_of_length_eq_zero h1.symm)
          refine upon_val (w' := w.setCells (ρ id) (off + n * i.size) us) (v := .slice (some ⟨ρ id, off, none⟩) (n + m) cap) ?_
            ⟨_, hK, ρ, (h.set hc hne (vs := (spl vs.toList (off + n * i.size) us).toArray) (by simpa using hspl) hne' hheap (setCells_sw _ _ _ _)).put hd ?_⟩
          · simp only [execOp, ho, resolve, Sem.run_bind, Sem.run_pure, Result.andThen_ok, invoke, builtin, List.map_toArray, List.map_cons, List.map_nil, hval]
            rw [hrun]; rfl
          · simp only [Rep]; exact ⟨hid, hg, .inl trivial⟩
      · 
        obtain rfl : m = 0 := by omega
        have hus0 : us = [] := List.eq_nil_of_length_eq_zero (by omega)
        have hys0 : ys = [] := List.eq_nil_of_length_eq_zero (by rw [RepL.length hus, hus0]; rfl)
        subst hus0; subst hys0
        rw [hupd _ (by simp [hc, spl])] at hK
        have hrun := run_append_nothing (P := P) w t t' o.type e i (elemT_some he) hi none 0 0 (Nat.le_refl _) (a.eval y) hsr
        refine upon_val (w' := w) (v := .slice none 0 0) ?_ ⟨_, hK, ρ, h.put hd (by simp only [Rep]; exact ⟨hid, Nat.le_refl _, .inr (by simp)⟩)⟩
        simp only [execOp, ho, resolve, Sem.run_bind, Sem.run_pure, Result.andThen_ok, invoke, builtin, List.map_toArray, List.map_cons, List.map_nil, hval]
        rw [hrun]; rfl
  · rename_i hxx
    rw [hxx] at hev
    simp only [Rep] at hev
    obtain ⟨hbb, hmm, hz0, hg⟩ := hx
    rcases Nat.eq_zero_or_pos m with rfl | hm
    · have hrun := run_append_nothing (P := P) w t t' o.type e i (elemT_some he) hi none 0 0 (Nat.le_refl _) (a.eval y) (by
        have : us = [] := List.eq_nil_of_length_eq_zero (by omega)
        subst this; exact hsr)
      refine upon_val (w' := w) (v := .slice none 0 0) ?_ ⟨_, hz0 rfl, ρ, h.put hd (by simp [Rep])⟩
      simp only [execOp, ho, resolve, Sem.run_bind, Sem.run_pure, Result.andThen_ok, invoke, builtin, List.map_toArray, List.map_cons, List.map_nil, hev]
      rw [hrun]; rfl
    · have hK := hg hm
      refine grow_wp (ty := o.type) (n := 0) (cap := 0) (m := m) h hd ho he hi hv (by simpa using hzl) hev (olds := []) (os := []) (by simp [RepL]) (fun w' hw' => run_firstCells_none (P := P) w' i.size 0 0 0) hus hsr (by omega) (by simpa using hbb) (by omega) ?_
      rw [Nat.zero_add]; exact hK
  · exact hx.elim

theorem range_wp {c : Cx} {st : PS} {a : Act} {w : World} {ρ : Nat → Nat} (h : Rr c st a w ρ) {o : Oper} (hd : ∀ x, o.dst = some x → x < c.n) {K : PS → Prop} {Q : Exit → Act → World → Prop}
    {t : TypeId} {x : Operand} (ho : o.op = .range t x) (hp : pRange P st t (st.ev x) fun r st' => K (st'.put o.dst r)) : o.wp P a w (Nx c K) Q := by
  obtain ⟨ht, s, hx, hK⟩ := hp
  have hev := h.ev x
  rw [hx] at hev
  simp only [Rep] at hev
  have h' := h.newIter (s := s) (w' := { w with heap := w.heap.push (.stringIter s 0) }) rfl
  refine upon_val (v := .pointer (some ⟨w.heap.size, 0, none⟩)) (w' := { w with heap := w.heap.push (.stringIter s 0) }) ?_ ⟨_, hK, _, h'.put hd ?_⟩
  · simp [execOp, ho, hev, Instr.range, run_underlying (strT_true ht)]
  · simp only [Rep]; exact ⟨Nat.lt_succ_self _, by rw [upd_self]⟩

theorem next_wp {c : Cx} {st : PS} {a : Act} {w : World} {ρ : Nat → Nat} (h : Rr c st a w ρ) {o : Oper} (hd : ∀ x, o.dst = some x → x < c.n) {K : PS → Prop} {Q : Exit → Act → World → Prop}
    {x : Operand} (ho : o.op = .next x true) (hp : pNext st (st.ev x) fun r st' => K (st'.put o.dst r)) : o.wp P a w (Nx c K) Q := by
  obtain ⟨id, hx, s, pos, hi, h1, h2⟩ := hp
  have hev := h.ev x
  rw [hx] at hev
  simp only [Rep] at hev
  obtain ⟨hid, hv⟩ := hev
  have hb := h.own.itb id s pos hi
  have hget : (getObj (ρ id)).run P w = .ok (.stringIter s pos) w := by simp [getObj, Sem.run, hb]
  rcases Nat.lt_or_ge pos s.size with hlt | hge
  · have h' := h.setIter hi (p' := pos + (Utf8.decode s pos).2) (w' := { w with heap := w.heap.setIfInBounds (ρ id) (.stringIter s (pos + (Utf8.decode s pos).2)) }) rfl
    have hset : (setObj (ρ id) (.stringIter s (pos + (Utf8.decode s pos).2))).run P w = .ok () { w with heap := w.heap.setIfInBounds (ρ id) (.stringIter s (pos + (Utf8.decode s pos).2)) } := by
      simp [setObj, Sem.run, hb]
    refine upon_val (v := .tuple #[.bool true, goInt pos, .int .i32 (Utf8.decode s pos).1]) ?_ ⟨_, h1 hlt, _, h'.put hd ⟨[.bool true, goInt pos, .int .i32 (Utf8.decode s pos).1], rfl, by simp [RepL, Rep, goInt]⟩⟩
    simp only [execOp, ho, hv]
    apply run_val
    simp only [Instr.next, Sem.run_bind, hget, Result.andThen_ok, if_pos hlt, hset]
    rfl
  · refine upon_val (v := .tuple #[.bool false]) (w' := w) ?_ ⟨_, h2 hge, _, h.put hd ⟨[.bool false], rfl, by simp [RepL, Rep]⟩⟩
    simp only [execOp, ho, hv]
    apply run_val
    simp only [Instr.next, Sem.run_bind, hget, Result.andThen_ok, if_neg (Nat.not_lt.2 hge)]
    rfl


theorem callFunc_run {f : FuncId} {fn : Func} (hf : P.funcs[f]? = some fn) (hb : fn.body.isSome = true) (hn : (fn.name == "runtime.NumGoroutine") = false) (args : Array Value) (w : World) :
    (callFunc f args).run P w = .ok (.enter f args) w := by
  have : fn.body.isNone = false := by cases h : fn.body <;> simp_all
  simp only [callFunc, Sem.run_bind, run_program, Result.andThen_ok, hf, hn, this, Bool.false_eq_true, if_false, Sem.run_pure]

theorem call_wp {c : Cx} {st : PS} {a : Act} {w : World} {ρ : Nat → Nat} (h : Rr c st a w ρ) {o : Oper} (hd : ∀ x, o.dst = some x → x < c.n) {K : PS → Prop} {Q : Exit → Act → World → Prop}
    {cl : Call} {x : Operand} (ho : o.op = .call cl) (hc : cl.callee = .value x) {g : FuncId} {caps : List PV} (hg : st.ev x = .fn g caps) 
    (hp : pCall P g (cl.args.toList.map st.ev ++ caps) st fun r st' => K (st'.put o.dst r)) : o.wp P a w (Nx c K) Q := by
  obtain ⟨args1, st1, hga, hp⟩ := hp
  have hok : okFn P g = true := by rcases hp with hp | hp; exact hp.2.1; exact hp.1
  obtain ⟨fn, hf, hb, hn⟩ : ∃ fn, P.funcs[g]? = some fn ∧ fn.body.isSome = true ∧ (fn.name == "runtime.NumGoroutine") = false := by
    unfold okFn at hok
    split at hok
    · rename_i fn hf
      simp only [Bool.and_eq_true, Bool.not_eq_true'] at hok
      exact ⟨fn, hf, hok.1, hok.2⟩
    · simp at hok
  have hx := h.ev x
  rw [hg] at hx
  simp only [Rep] at hx
  obtain ⟨us, hv, hus⟩ := hx
  have hargs : ∀ l : List Operand, RepL (enOf c.A0 w ρ st.H st.it st.nx) (l.map st.ev) (l.map a.eval) := by
    intro l
    induction l with
    | nil => simp [RepL]
    | cons x l ih => simp only [List.map_cons, RepL]; exact ⟨h.ev x, ih⟩
  have hall := RepL.append (hargs cl.args.toList) hus
  have hcalls : Calls P g (cl.args.toList.map a.eval ++ us).toArray w (CallRes c a (ghK fun r st' => K (st'.put o.dst r))) := by
    obtain ⟨ρ1, h1, hall1⟩ := hga c a w _ ⟨ρ, h, hall⟩
    rcases hp with hp | hp
    · exact callP_sound h1 hall1 hp
    · exact callM_sound h1 hall1 hp
  have hrun : (execOp a.eval o).run P w = .ok (.enter g (cl.args.toList.map a.eval ++ us).toArray) w := by
    obtain ⟨callee, args, tys⟩ := cl
    simp only [] at hc; subst hc
    have e : args.map a.eval ++ us.toArray = (args.toList.map a.eval ++ us).toArray := by apply Array.ext'; simp
    simp only [execOp, ho, resolve, hv, Deferred.ofValue, Sem.run_bind, Sem.run_pure, Result.andThen_ok, invoke, Array.empty_append]
    rw [e]
    exact callFunc_run hf hb hn _ w
  unfold Oper.wp
  rw [hrun, Oper.upon_enter]
  refine hcalls.mono ?_
  rintro e w' ⟨v, r, st', ρ', rfl, ⟨r1, st1, hg, hK⟩, hR, hrep⟩
  obtain ⟨ρ1, hR1, hrep1⟩ := hg c a w' v ⟨ρ', hR, hrep⟩
  exact ⟨_, hK, ρ1, hR1.put hd hrep1⟩

theorem op_sound {c : Cx} {st : PS} {a : Act} {w : World} (h : R c st a w) {o : Oper} (hd : ∀ x, o.dst = some x → x < c.n) {K : PS → Prop} {Q : Exit → Act → World → Prop}
    (hp : pOp P o K st) : o.wp P a w (Nx c K) Q := by
  obtain ⟨ρ, h⟩ := h
  unfold pOp at hp
  split at hp
  · rename_i ho; exact store_wp h hd ho hp
  · rename_i ho; exact alloc_wp h hd ho hp
  · rename_i ho; exact box_wp h hd ho hp
  · rename_i ho; exact make_wp h hd ho hp
  · rename_i ho; exact buildSlice_wp h hd ho hp
  · rename_i ho; exact range_wp h hd ho hp
  · rename_i ho; exact next_wp h hd ho hp
  · rename_i cl ho
    split at hp
    · rename_i x y t t' hc ha ht
      obtain ⟨callee, args, tys⟩ := cl
      simp only [] at hc ha ht
      subst hc
      obtain rfl : args = #[x, y] := by apply Array.ext'; simpa using ha
      obtain rfl : tys = #[t, t'] := by apply Array.ext'; simpa using ht
      exact append_wp h hd ho hp
    · rename_i x y t t' hc ha ht
      obtain ⟨callee, args, tys⟩ := cl
      simp only [] at hc ha ht
      subst hc
      obtain rfl : args = #[x, y] := by apply Array.ext'; simpa using ha
      obtain rfl : tys = #[t, t'] := by apply Array.ext'; simpa using ht
      exact copy_wp h hd ho hp
    · rename_i f hc
      obtain ⟨g, caps, hg, hp⟩ := hp
      exact call_wp h hd ho hc hg hp
    · exact quiet_wp h hd (by rw [ho]; exact hp)
  · exact quiet_wp h hd hp

theorem R.put {c : Cx} {st : PS} {a : Act} {w : World} (h : R c st a w) {d : Option Nat} (hd : ∀ x, d = some x → x < c.n) (v : Value) : R c (st.put d (.val v)) (a.put d v) w :=
  h.imp fun _ h => h.put hd (by simp [Rep])

theorem guard_sound {c : Cx} {st : PS} {a : Act} {w : World} (h : R c st a w) {ops : Array Oper} {o : Oper} {run skip : Prop} (hg : pGuard ops st o run skip) :
    (Region.wanted o (yielded ops a.tmps) = true ∧ run) ∨ (Region.wanted o (yielded ops a.tmps) = false ∧ skip) := by
  obtain ⟨ρ, h⟩ := h
  unfold pGuard at hg
  unfold Region.wanted
  split at hg
  · rename_i e; rw [e]; exact .inl ⟨rfl, hg⟩
  · rename_i j want e
    rw [e]
    split at hg
    · exact hg.elim
    · rename_i d hd
      have hs := h.slots d
      have hget : ∀ v, v ≠ undef → a.tmps.getD d undef = v → a.tmps[d]? = some v := by
        intro v hv hh
        rw [Array.getD_eq_getD_getElem?] at hh
        cases hx : a.tmps[d]? with
        | none => rw [hx] at hh; exact absurd hh.symm hv
        | some x => rw [hx] at hh; simp at hh; rw [hh]
      split at hg
      · rename_i b hb
        rw [hb] at hs
        simp only [Rep] at hs
        have h1 := hget (.bool b) (by simp [undef]) hs
        have hy : yielded ops a.tmps j = some b := by simp [yielded, hd, h1]
        simp only [hy]
        by_cases hbw : b = want
        · exact .inl ⟨by simp [hbw], hg.1 hbw⟩
        · exact .inr ⟨by simp [hbw], hg.2 hbw⟩
      · rename_i vs hb
        rw [hb] at hs
        simp only [Rep] at hs
        have hy : yielded ops a.tmps j = none := by
          unfold yielded
          rw [hd]
          simp only [Option.bind_some]
          rw [Array.getD_eq_getD_getElem?] at hs
          cases hx : a.tmps[d]? with
          | none => rfl
          | some x => rw [hx] at hs; simp at hs; subst hs; rfl
        exact .inr ⟨by simp [hy], hg⟩
      · exact hg.elim

theorem pOps_sound {c : Cx} {ops : Array Oper} {K : PS → Prop} {Q : Exit → Act → World → Prop} (hQ : ∀ st a w, K st → R c st a w → Q .normal a w) :
    ∀ (l : List Nat), (∀ i ∈ l, ∀ o, ops[i]? = some o → ∀ x, o.dst = some x → x < c.n) → ∀ (st : PS) (a : Act) (w : World), R c st a w →
      pOps P ops K (l.filterMap (ops[·]?)) st → wpOps P ops Q l a w
  | [], _, st, a, w, h, hp => hQ _ _ _ hp h
  | i :: l, hd, st, a, w, h, hp => by
    have ih := pOps_sound hQ l (fun j hj => hd j (List.mem_cons_of_mem _ hj))
    simp only [wpOps]
    cases ho : ops[i]? with
    | none =>
      rw [List.filterMap_cons_none ho] at hp
      exact ih st a w h hp
    | some o =>
      rw [List.filterMap_cons_some ho] at hp
      simp only [pOps] at hp
      have hdo := hd i (List.mem_cons_self ..) o ho
      simp only []
      rcases guard_sound h hp with ⟨hw, hrun⟩ | ⟨hw, hskip⟩
      · rw [if_pos hw]
        refine .inl (Oper.wp_mono ?_ (op_sound h hdo hrun))
        rintro a w ⟨st', hK, hR⟩
        exact ih st' a w hR hK
      · rw [if_neg (by simp [hw])]
        exact ih _ _ _ (h.put hdo undef) hskip

end Go.Proofs.Ytfjdfnlkobeehaa
end
