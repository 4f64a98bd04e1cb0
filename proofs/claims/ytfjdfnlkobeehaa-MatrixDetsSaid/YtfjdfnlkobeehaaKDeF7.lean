/- Part 7 of the way to the statement: the walk and what it needs. -/
import Derived.Test.YtfjdfnlkobeehaaKDeF6
section
set_option linter.unusedVariables false
set_option linter.unusedSimpArgs false
namespace Go.Proofs.Ytfjdfnlkobeehaa

variable {P : Program}

theorem cells_rep {E : En} {p : PV} {v : Value} (h : Rep E p v) (hp : isAny p = false) : RepL E (cellsP p) v.cells.toList := by
  cases p with
  | any => simp [isAny] at hp
  | val x =>
    simp only [Rep] at h; subst h
    cases v <;> simp [cellsP, Value.cells, RepL, Rep]
    exact RepL.vals _
  | sl n cs =>
    simp only [cellsP]
    have h' := h
    simp only [Rep] at h'
    rcases h' with ⟨_, _, a, rfl⟩ | ⟨b, o, cap, rfl, _⟩ <;> simp only [Value.cells, RepL, and_true] <;> exact h
  | ref id off n cap z =>
    simp only [cellsP]
    have h' := h
    simp only [Rep] at h'
    obtain ⟨_, _, rfl | ⟨_, _, rfl⟩⟩ := h' <;> simp only [Value.cells, RepL, and_true] <;> exact h
  | ptr id off =>
    simp only [cellsP]
    have h' := h
    simp only [Rep] at h'
    obtain ⟨_, rfl⟩ := h'
    simp only [Value.cells, RepL, and_true]; exact h
  | rp cs =>
    simp only [cellsP]
    have h' := h
    simp only [Rep] at h'
    obtain ⟨b, o, rfl, _⟩ := h'
    simp only [Value.cells, RepL, and_true]; exact h
  | agg cs =>
    simp only [Rep] at h
    obtain ⟨vs, rfl, h⟩ := h
    simpa [cellsP, Value.cells] using h
  | tup cs =>
    simp only [cellsP]
    have h' := h
    simp only [Rep] at h'
    obtain ⟨vs, rfl, _⟩ := h'
    simp only [Value.cells, RepL, and_true]; exact h
  | fn f cs =>
    simp only [cellsP]
    have h' := h
    simp only [Rep] at h'
    obtain ⟨vs, rfl, _⟩ := h'
    simp only [Value.cells, RepL, and_true]; exact h

theorem aggP_rep {E : En} {p : PV} {v : Value} {cs : List PV} (h : Rep E p v) (hp : aggP p = some cs) : ∃ vs : List Value, v = .agg vs.toArray ∧ RepL E cs vs := by
  cases p <;> simp [aggP] at hp
  case val x =>
    simp only [Rep] at h; subst h
    cases v <;> simp at hp
    subst hp
    exact ⟨_, by simp, RepL.vals _⟩
  case agg ds =>
    subst hp
    simpa only [Rep] using h

theorem RepL.spl {E : En} {cs new : List PV} {vs us : List Value} (off : Nat) (h : RepL E cs vs) (h2 : RepL E new us) : RepL E (spl cs off new) (spl vs off us) := by
  unfold Ytfjdfnlkobeehaa.spl
  rw [RepL.length h2]
  exact RepL.append (RepL.take _ h) (RepL.append h2 (RepL.drop _ h))

theorem spl_length {α : Type} {cs new : List α} {off : Nat} (h : off + new.length ≤ cs.length) : (spl cs off new).length = cs.length := by
  simp [spl]; omega

theorem spl_get {α : Type} {cs new : List α} {off : Nat} (h : off + new.length ≤ cs.length) (i : Nat) :
    (spl cs off new)[i]? = if i < off then cs[i]? else if i < off + new.length then new[i - off]? else cs[i]? := by
  unfold spl
  rw [List.getElem?_append, List.length_take, Nat.min_eq_left (by omega)]
  split
  · rw [List.getElem?_take]; simp [*]
  · rw [List.getElem?_append]
    split
    · rw [if_pos (by omega)]
    · rw [if_neg (by omega), List.getElem?_drop]
      congr 1; omega

theorem foldl_set_get (new : List Value) : ∀ (off j : Nat) (cs : Array Value), off + j + new.length ≤ cs.size → ∀ i,
    ((new.zipIdx j).foldl (fun cs (c, j) => cs.setIfInBounds (off + j) c) cs)[i]? = if i < off + j then cs[i]? else if i < off + j + new.length then new[i - (off + j)]? else cs[i]? := by
  induction new with
  | nil => intro off j cs h i; simp only [List.zipIdx_nil, List.foldl_nil, List.length_nil, Nat.add_zero]; split <;> (first | rfl | (rw [if_neg (by omega)]))
  | cons v new ih =>
    intro off j cs h i
    simp only [List.length_cons] at h ⊢
    rw [List.zipIdx_cons, List.foldl_cons]
    rw [ih off (j + 1) (cs.setIfInBounds (off + j) v) (by simp; omega) i, Array.getElem?_setIfInBounds]
    by_cases h1 : i < off + j
    · have e1 : i < off + (j + 1) := by omega
      have e2 : ¬ off + j = i := by omega
      simp [h1, e1, e2]
    · by_cases h2 : i = off + j
      · subst h2
        have e1 : off + j < off + (j + 1) := by omega
        have e3 : off + j < off + j + (new.length + 1) := by omega
        have e4 : off + j < cs.size := by omega
        simp [e1, e3, e4]
      · have e1 : ¬ i < off + (j + 1) := by omega
        have e2 : ¬ off + j = i := by omega
        simp only [h1, e1, e2, if_false]
        by_cases h3 : i < off + (j + 1) + new.length
        · rw [if_pos h3, if_pos (by omega)]
          rw [show i - (off + j) = i - (off + (j + 1)) + 1 from by omega, List.getElem?_cons_succ]
        · rw [if_neg h3, if_neg (by omega)]

theorem foldl_set (new : List Value) (off : Nat) (cs : Array Value) (h : off + new.length ≤ cs.size) :
    (new.zipIdx).foldl (fun cs (c, j) => cs.setIfInBounds (off + j) c) cs = (spl cs.toList off new).toArray := by
  apply Array.ext_getElem?
  intro i
  have := foldl_set_get new off 0 cs (by omega) i
  rw [this]
  simp only [Nat.add_zero, List.getElem?_toArray]
  rw [spl_get (by simpa using h)]
  simp

theorem build_sound {c : Cx} {st : PS} {a : Act} {w : World} {ρ : Nat → Nat} (h : Rr c st a w ρ) {t : TypeId} {fs : Array Field} (hu : P.underlying t = some (.struct fs))
    (hz : ∀ f ∈ fs.toList, (sizeT P f.type).isSome = true) :
    ∀ (ps : List (Nat × Operand)) (cs : List PV) (vs : List Value) (out : List PV), RepL (enOf c.A0 w ρ st.H st.it st.nx) cs vs → buildF P st t ps cs = some out →
    ∃ us : List Value, Instr.fill (fun i => (fs.map fun f => (f.offset, (sizeT P f.type).getD 0))[i]?) vs.toArray (ps.map fun p => (p.1, a.eval p.2)) = some us.toArray ∧ RepL (enOf c.A0 w ρ st.H st.it st.nx) out us
  | [], cs, vs, out, hr, hb => by
    simp [buildF] at hb; subst hb
    exact ⟨vs, by simp [Instr.fill], hr⟩
  | (i, x) :: ps, cs, vs, out, hr, hb => by
    simp only [buildF] at hb
    cases hf : fieldT P t i with
    | none => simp [hf] at hb
    | some q =>
      obtain ⟨off, ft⟩ := q
      simp only [hf] at hb
      cases hs : sizeT P ft with
      | none => simp [hs] at hb
      | some n =>
        simp only [hs] at hb
        split at hb
        · rename_i hc
          obtain ⟨h1, h2, h3⟩ := hc
          have hcr := cells_rep (h.ev x) h3
          obtain ⟨us, hfill, hus⟩ := build_sound h hu hz ps _ _ out (RepL.spl off hr hcr) hb
          refine ⟨us, ?_, hus⟩
          have hy : fs[i]? = some ⟨(fs[i]?.map (·.name)).getD "", ft, off, (fs[i]?.map (·.embedded)).getD false, (fs[i]?.map (·.tag)).getD "", (fs[i]?.map (·.pkgPath)).getD "", (fs[i]?.map (·.byteOffset)).getD 0⟩ := by
            unfold fieldT at hf
            rw [hu] at hf
            simp at hf
            obtain ⟨y, hy, rfl, rfl⟩ := hf
            rw [hy]; rfl
          have hlen := RepL.length hcr
          have hlen2 := RepL.length hr
          simp only [List.map_cons, Instr.fill]
          have e1 : (fs.map fun f => (f.offset, (sizeT P f.type).getD 0))[i]? = some (off, n) := by
            rw [Array.getElem?_map, hy]; simp [hs]
          rw [e1]
          have e2 : ((a.eval x).cells.size ≠ n) = False := by simp; rw [← h1, hlen]; simp
          have e3 : (off + (a.eval x).cells.size > vs.toArray.size) = False := by
            simp; rw [← hlen2]; have : (a.eval x).cells.size = n := by rw [← h1, hlen]; simp
            omega
          simp only [e2, e3]
          have hsz : (a.eval x).cells.size = n := by rw [← h1, hlen]; simp
          have := foldl_set (a.eval x).cells.toList off vs.toArray (by simp [hsz]; omega)
          have e4 : ((a.eval x).cells.zipIdx.foldl (fun cs (c, j) => cs.setIfInBounds (off + j) c) vs.toArray) = (spl vs off (a.eval x).cells.toList).toArray := by
            rw [← Array.foldl_toList, Array.toList_zipIdx]
            exact this
          rw [if_neg (by simp), e4]
          exact hfill
        · simp at hb

theorem zeroT_run {t : TypeId} {z : List Value} (h : zeroT P t = some z) (w : World) : ∃ v, (zeroValue t).run P w = .ok v w ∧ v.cells.toList = z := by
  unfold zeroT at h
  cases hi : P.info? t with
  | none => simp [hi] at h
  | some i =>
    cases hz : i.zero with
    | none => simp [hi, hz] at h
    | some v =>
      simp [hi, hz] at h
      exact ⟨v, by simp [zeroValue, typeInfo, hi, hz], h⟩

theorem mapM_places {fs : Array Field} (hz : ∀ f ∈ fs.toList, (sizeT P f.type).isSome = true) (w : World) :
    (fs.mapM fun f => (do pure (f.offset, ← sizeOf f.type) : Sem (Nat × Nat))).run P w = .ok (fs.map fun f => (f.offset, (sizeT P f.type).getD 0)) w := by
  rw [Array.mapM_eq_mapM_toList]
  have key : ∀ l : List Field, (∀ f ∈ l, (sizeT P f.type).isSome = true) →
      (l.mapM fun f => (do pure (f.offset, ← sizeOf f.type) : Sem (Nat × Nat))).run P w = .ok (l.map fun f => (f.offset, (sizeT P f.type).getD 0)) w := by
    intro l
    induction l with
    | nil => intro _; simp
    | cons f l ih =>
      intro h
      obtain ⟨n, hn⟩ := Option.isSome_iff_exists.1 (h f (by simp))
      rw [List.mapM_cons]
      simp only [Sem.run_bind, sizeT_some hn, Result.andThen_ok, Sem.run_pure, ih (fun g hg => h g (by simp [hg])), List.map_cons, hn, Option.getD_some]
  rw [Sem.run_map, key fs.toList hz]
  simp only [Result.andThen_ok]
  congr 1
  apply Array.ext'
  simp

theorem qv_sound {c : Cx} {st : PS} {a : Act} {w : World} {ρ : Nat → Nat} (h : Rr c st a w ρ) (o : Oper) {p : PV} (hq : qv P st o.op = some p) :
    ∃ v, (execOp a.eval o).run P w = .ok (.value v) w ∧ Rep (enOf c.A0 w ρ st.H st.it st.nx) p v := by
  have lift : ∀ (s : Sem Value) v, s.run P w = .ok v w → (do pure (.value (← s)) : Sem Next).run P w = .ok (.value v) w := by
    intro s v hs; simp [hs]
  obtain ⟨dst, op, ty, pos, after, guard⟩ := o
  cases op with
  | move x => simp [qv] at hq; subst hq; exact ⟨a.eval x, rfl, h.ev x⟩
  | assign x => simp [qv] at hq; subst hq; exact ⟨a.eval x, rfl, h.ev x⟩
  | pick b x y =>
    simp only [qv] at hq
    split at hq
    · rename_i t hb
      simp at hq
      have := h.ev b
      rw [hb] at this
      simp only [Rep] at this
      refine ⟨if t then a.eval x else a.eval y, ?_, ?_⟩
      · simp [execOp, this, asBool]
      · subst hq; cases t <;> simp <;> exact h.ev _
    · simp at hq
  | binOp op t x y yt =>
    simp only [qv] at hq
    have hx := h.ev x
    have hy := h.ev y
    have key : ∀ u v r, st.ev x = .val u → st.ev y = .val v → binV op u v = some r → (∀ a b, u = .bool a → v = .bool b → boolT P t = true) → p = .val r →
        ∃ v, (execOp a.eval ⟨dst, .binOp op t x y yt, ty, pos, after, guard⟩).run P w = .ok (.value v) w ∧ Rep (enOf c.A0 w ρ st.H st.it st.nx) p v := by
      intro u v r e1 e2 hr hb hp
      rw [e1] at hx; rw [e2] at hy
      simp only [Rep] at hx hy
      subst hp
      refine ⟨r, ?_, by simp [Rep]⟩
      simp only [execOp]
      apply lift
      rw [hx, hy]
      simp [eqGuard_sound hr, binV_sound hr t w hb]
    split at hq
    · rename_i b1 b2 e1 e2
      split at hq
      · rename_i hb
        cases hr : binV op (.bool b1) (.bool b2) with
        | none => simp [hr] at hq
        | some r => simp [hr] at hq; exact key _ _ r e1 e2 hr (fun _ _ _ _ => hb) hq.symm
      · simp at hq
    · rename_i u v hne e1 e2
      cases hr : binV op u v with
      | none => simp [hr] at hq
      | some r =>
        simp [hr] at hq
        refine key _ _ r e1 e2 hr (fun b1 b2 h1 h2 => ?_) hq.symm
        subst h1; subst h2
        exact (hne b1 b2 rfl rfl).elim
    · simp at hq
  | unOp op t x =>
    simp only [qv] at hq
    have hx := h.ev x
    split at hq
    · rename_i u e1
      rw [e1] at hx
      simp only [Rep] at hx
      cases hr : unV op u with
      | none => simp [hr] at hq
      | some r =>
        simp [hr] at hq; subst hq
        refine ⟨r, ?_, by simp [Rep]⟩
        simp only [execOp]
        apply lift
        rw [hx]; exact unV_sound hr w
    · simp at hq
  | convert s d x =>
    simp only [qv] at hq
    obtain ⟨r, hr, hrep⟩ := convP_sound h (h.ev x) hq
    exact ⟨r, lift _ _ hr, hrep⟩
  | indexAddr t x i =>
    simp only [qv] at hq
    cases he : elemT P t with
    | none => simp [he] at hq
    | some e =>
      simp only [he] at hq
      split at hq
      · rename_i sz k n hs hi
        have := h.ev i
        rw [hi] at this
        simp only [Rep] at this
        obtain ⟨r, hr, hrep⟩ := idxP_sound (k := k) (w := w) he hs (h.ev x) hq
        exact ⟨r, lift _ _ (by rw [this]; exact hr), hrep⟩
      · simp at hq
  | index t x i =>
    simp only [qv] at hq
    split at hq
    · rename_i s k n hx hi
      split at hq
      · rename_i hc
        cases hb : s[n.toNat]? with
        | none => simp [hb] at hq
        | some b =>
          simp [hb] at hq; subst hq
          have h1 := h.ev x
          have h2 := h.ev i
          rw [hx] at h1; rw [hi] at h2
          simp only [Rep] at h1 h2
          refine ⟨.int .u8 b.toNat, lift _ _ ?_, by simp [Rep]⟩
          rw [h1, h2]
          simp [Instr.index, asIntOf, run_underlying (strT_true hc.1), hc.2, hb]
      · simp at hq
    · simp at hq
  | load t x =>
    simp only [qv] at hq
    cases hs : sizeT P t with
    | none => simp [hs] at hq
    | some n =>
      simp only [hs] at hq
      split at hq
      · rename_i ha
        obtain ⟨r, hr, hrep⟩ := ldP_sound h hs ha (h.ev x) hq
        exact ⟨r, lift _ _ hr, hrep⟩
      · simp at hq
  | fieldAddr s x f =>
    simp only [qv] at hq
    cases hf : fieldT P s f with
    | none => simp [hf] at hq
    | some q =>
      obtain ⟨off, t⟩ := q
      simp only [hf] at hq
      split at hq
      · rename_i n hs
        obtain ⟨r, hr, hrep⟩ := fldP_sound (w := w) hf hs (h.ev x) hq
        exact ⟨r, lift _ _ hr, hrep⟩
      · simp at hq
  | build t parts =>
    simp only [qv] at hq
    cases hz : zeroT P t with
    | none => simp [hz] at hq
    | some z =>
      simp only [hz] at hq
      split at hq
      · rename_i hsz
        unfold sizedT at hsz
        cases hu : P.underlying t with
        | none => simp [hu] at hsz
        | some d =>
          cases d <;> simp only [hu] at hsz <;> (try (simp at hsz; done))
          rename_i fs
          have hsz' : ∀ f ∈ fs.toList, (sizeT P f.type).isSome = true := List.all_eq_true.1 hsz
          cases hb : buildF P st t parts.toList (z.map .val) with
          | none => simp [hb] at hq
          | some out =>
            simp [hb] at hq; subst hq
            obtain ⟨us, hfill, hus⟩ := build_sound h hu hsz' parts.toList _ z out (RepL.vals z) hb
            obtain ⟨v, hv, rfl⟩ := zeroT_run hz w
            refine ⟨.agg us.toArray, lift _ _ ?_, us, rfl, hus⟩
            have hp : (parts.map fun (i, x) => (i, a.eval x)).toList = parts.toList.map fun p => (p.1, a.eval p.2) := by simp
            simp only [Instr.build, Sem.run_bind, hv, Result.andThen_ok, run_underlying hu, mapM_places hsz', hp]
            rw [show v.cells.toList.toArray = v.cells from by simp] at hfill
            rw [hfill]; rfl
      · simp at hq
  | field s x f =>
    simp only [qv] at hq
    split at hq
    · rename_i off t cs hf hx
      cases hs : sizeT P t with
      | none => simp [hs] at hq
      | some n =>
        simp only [hs] at hq
        split at hq
        · rename_i ha
          obtain ⟨vs, hv, hr⟩ := aggP_rep (h.ev x) hx
          have ha' : aggT P t = true ∨ oneT P t = true := by simpa using ha
          unfold fieldT at hf
          cases hu : P.underlying s with
          | none => simp [hu] at hf
          | some d =>
            cases d <;> simp [hu] at hf
            rename_i fs
            obtain ⟨y, hy, rfl, rfl⟩ := hf
            have hd := RepL.drop y.offset hr
            have hlen := RepL.length hr
            cases hg : aggT P y.type with
            | true =>
              simp only [hg, ldC, if_true] at hq
              split at hq
              · rename_i hn
                simp at hq; subst hq
                refine ⟨.agg ((vs.drop y.offset).take n).toArray, lift _ _ ?_, _, rfl, RepL.take n hd⟩
                rw [hv]
                simp [Instr.field, run_underlying hu, hy, asAgg, part, isAgg_run hg ha', sizeT_some hs]
              · simp at hq
            | false =>
              simp only [hg, ldC, Bool.false_eq_true, if_false] at hq
              rw [List.head?_drop] at hq
              obtain ⟨u, hu2, hru⟩ := RepL.get hr y.offset p hq
              refine ⟨u, lift _ _ ?_, hru⟩
              rw [hv]
              simp [Instr.field, run_underlying hu, hy, asAgg, part, isAgg_run hg ha', hu2]
        · simp at hq
    · simp at hq
  | extract x i =>
    simp only [qv] at hq
    split at hq
    · rename_i cs hx
      have := h.ev x
      rw [hx] at this
      simp only [Rep] at this
      obtain ⟨vs, hv, hr⟩ := this
      obtain ⟨u, hu, hru⟩ := RepL.get hr i p hq
      exact ⟨u, lift _ _ (by rw [hv]; simp [Instr.extract, hu]), hru⟩
    · simp at hq
  | nilCheck x =>
    simp only [qv] at hq
    have hx := h.ev x
    split at hq
    · rename_i id off e
      simp at hq; subst hq
      rw [e] at hx
      have hx' := hx
      simp only [Rep] at hx'
      exact ⟨a.eval x, by simp [execOp, hx'.2], hx⟩
    · rename_i cs e
      simp at hq; subst hq
      rw [e] at hx
      have hx' := hx
      simp only [Rep] at hx'
      obtain ⟨b, o, hv, _⟩ := hx'
      exact ⟨a.eval x, by simp [execOp, hv], hx⟩
    · simp at hq
  | slice t x lo hi mx =>
    cases mx with
    | some _ => simp [qv] at hq
    | none =>
      simp only [qv] at hq
      have hx := h.ev x
      split at hq
      · rename_i hstr
        split at hq
        · rename_i s e
          rw [e] at hx
          simp only [Rep] at hx
          split at hq
          · rename_i u l hh hl
            simp only [sliceP] at hq
            split at hq
            · rename_i hc
              simp at hq; subst hq
              refine ⟨.string (s.extract l u), lift _ _ ?_, by simp [Rep]⟩
              rw [hx]
              have := sliceBounds_sound (P := P) h false hl hh hc.1 hc.2
              simp [Instr.sliceAt, run_underlying (strT_true hstr), Instr.slice, this]
            · simp at hq
          · simp at hq
        · simp at hq
      · cases he : elemT P t with
        | none => simp [he] at hq
        | some e =>
          simp only [he] at hq
          split at hq
          · rename_i sz n hs hn
            split at hq
            · simp at hq
            · rename_i u l hh hl hne
              have hub : l ≤ u := by
                cases hxx : st.ev x with
                | val y =>
                  rw [hxx] at hq
                  cases y with
                  | string s => exact (hne s hxx).elim
                  | slice b n cap =>
                    cases b with
                    | some b => simp [sliceP] at hq
                    | none => cases n <;> cases cap <;> simp [sliceP] at hq <;> omega
                  | _ => simp [sliceP] at hq
                | sl => rw [hxx] at hq; simp [sliceP] at hq; omega
                | ref => rw [hxx] at hq; simp [sliceP] at hq; omega
                | _ => rw [hxx] at hq; simp [sliceP] at hq
              obtain ⟨r, hr, hrep⟩ := sliceP_sound (w := w) (l := lo.map a.eval) (u := hi.map a.eval) he hs hx hn (fun s es => hne s es)
                (fun cap hcap => sliceBounds_sound h true hl hh hub hcap) hq
              refine ⟨r, lift _ _ ?_, hrep⟩
              simp only [Instr.sliceAt, Sem.run_bind, run_underlying (elemT_some he), Result.andThen_ok, Option.map_none]
              exact hr
            · simp at hq
          · simp at hq
  | makeFunc fn first caps =>
    cases fn with
    | func f =>
      simp only [qv] at hq
      split at hq
      · rename_i hf
        simp at hq; subst hq
        refine ⟨.func (.func f) #[] (caps.map a.eval), ?_, ?_⟩
        · have : first = #[] := by cases first; simp at hf; simp [hf]
          subst this
          simp only [execOp, Instr.makeFunc, Array.map_empty]
          rfl
        · simp only [Rep]
          refine ⟨caps.toList.map a.eval, by congr 1; apply Array.ext'; simp, ?_⟩
          have : ∀ l : List Operand, RepL (enOf c.A0 w ρ st.H st.it st.nx) (l.map st.ev) (l.map a.eval) := by
            intro l
            induction l with
            | nil => simp [RepL]
            | cons x l ih => simp only [List.map_cons, RepL]; exact ⟨h.ev x, ih⟩
          exact this _
      · simp at hq
    | _ => simp [qv] at hq
  | call cl =>
    obtain ⟨callee, args, argTypes⟩ := cl
    simp only [qv] at hq
    split at hq
    · rename_i x t hargs hty
      obtain rfl : args = #[x] := by apply Array.ext'; simpa using hargs
      obtain rfl : argTypes = #[t] := by apply Array.ext'; simpa using hty
      have hx := h.ev x
      split at hq
      · rename_i hstr
        split at hq
        · rename_i s e
          simp at hq; subst hq
          rw [e] at hx
          simp only [Rep] at hx
          refine ⟨.int .i64 s.size, ?_, by simp [Rep]⟩
          simp [execOp, resolve, invoke, builtin, Builtin.len_, run_underlying (strT_true hstr), hx, goInt]
        · simp at hq
      · split at hq
        · simp at hq
        · rename_i he hne
          have hu := elemT_some he
          have key : ∀ b n cap, a.eval x = .slice b n cap → p = .val (.int .i64 n) →
              ∃ v, (execOp a.eval ⟨dst, .call ⟨.builtin .len, #[x], #[t]⟩, ty, pos, after, guard⟩).run P w = .ok (.value v) w ∧ Rep (enOf c.A0 w ρ st.H st.it st.nx) p v := by
            intro b n cap hv hp
            subst hp
            exact ⟨.int .i64 n, by simp [execOp, resolve, invoke, builtin, Builtin.len_, run_underlying hu, hv, goInt], by simp [Rep]⟩
          cases hxx : st.ev x with
          | val u =>
            rw [hxx] at hq hx
            simp only [Rep] at hx
            cases u <;> simp [lenP] at hq
            · exact (hne _ hxx).elim
            · exact key _ _ _ hx hq.symm
          | sl n cs =>
            rw [hxx] at hq hx
            simp [lenP] at hq
            simp only [Rep] at hx
            rcases hx with ⟨rfl, _, ad, hv⟩ | ⟨b, o, cap, hv, _⟩ <;> exact key _ _ _ hv hq.symm
          | ref id off n cap z =>
            rw [hxx] at hq hx
            simp [lenP] at hq
            simp only [Rep] at hx
            obtain ⟨_, _, hv | ⟨rfl, _, hv⟩⟩ := hx <;> exact key _ _ _ hv hq.symm
          | _ => rw [hxx] at hq; simp [lenP] at hq
        · simp at hq
    · rename_i x t hargs hty
      obtain rfl : args = #[x] := by apply Array.ext'; simpa using hargs
      obtain rfl : argTypes = #[t] := by apply Array.ext'; simpa using hty
      have hx := h.ev x
      split at hq
      · rename_i he
        have hu := elemT_some he
        have key : ∀ b n cap, a.eval x = .slice b n cap → p = .val (.int .i64 cap) →
            ∃ v, (execOp a.eval ⟨dst, .call ⟨.builtin .cap, #[x], #[t]⟩, ty, pos, after, guard⟩).run P w = .ok (.value v) w ∧ Rep (enOf c.A0 w ρ st.H st.it st.nx) p v := by
          intro b n cap hv hp
          subst hp
          exact ⟨.int .i64 cap, by simp [execOp, resolve, invoke, builtin, Builtin.cap_, run_underlying hu, hv, goInt], by simp [Rep]⟩
        cases hxx : st.ev x with
        | val u =>
          rw [hxx] at hq hx
          simp only [Rep] at hx
          cases u <;> simp [capP] at hq
          exact key _ _ _ hx hq.symm
        | ref id off n cap z =>
          rw [hxx] at hq hx
          simp [capP] at hq
          simp only [Rep] at hx
          obtain ⟨_, _, hv | ⟨_, rfl, hv⟩⟩ := hx <;> exact key _ _ _ hv hq.symm
        | _ => rw [hxx] at hq; simp [capP] at hq
      · simp at hq
    · rename_i x y t t' hargs hty
      obtain rfl : args = #[x, y] := by apply Array.ext'; simpa using hargs
      have hx := h.ev x
      have hy := h.ev y
      unfold maxP at hq
      split at hq
      · rename_i k a k' b ex ey
        rw [ex] at hx
        rw [ey] at hy
        simp only [Rep] at hx hy
        obtain rfl := Option.some.inj hq
        exact ⟨.int k (if b > a then b else a), by simp [execOp, resolve, invoke, builtin, hx, hy, run_max_int2], by simp [Rep]⟩
      · simp at hq
    · simp at hq
  | _ => simp [qv] at hq

end Go.Proofs.Ytfjdfnlkobeehaa
end
