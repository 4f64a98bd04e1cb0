/- Part 6 of the way to the statement: the walk and what it needs. -/
import Derived.Test.YtfjdfnlkobeehaaKDeF5
import Derived.Laws.Small
import Derived.Laws.BytesString
section
set_option linter.unusedVariables false
set_option linter.unusedSimpArgs false
namespace Go.Proofs.Ytfjdfnlkobeehaa

variable {P : Program}

theorem isAgg_run {t : TypeId} {b : Bool} (h : aggT P t = b) (h2 : aggT P t = true ∨ oneT P t = true) (w : World) : (isAgg t).run P w = .ok b w := by
  unfold isAgg aggT oneT at *
  cases hu : P.underlying t with
  | none => simp [hu] at h2
  | some d =>
    rw [Sem.run_bind, run_underlying hu w]
    cases d <;> simp [hu] at h ⊢ <;> (first | (subst h; simp) | skip)


theorem load_sound {w : World} {t : TypeId} {n : Nat} {E : En} (hE : E.w = w) {b o : Nat} {cs : List PV} {p : PV} (hs : sizeT P t = some n) (ha : (aggT P t || oneT P t) = true)
    (hrow : Row E b o cs) (hl : ldC (aggT P t) n cs = some p) : ∃ v, (loadVar t ⟨b, o, none⟩).run P w = .ok v w ∧ Rep E p v := by
  subst hE
  have ha' : aggT P t = true ∨ oneT P t = true := by simpa using ha
  cases hg : aggT P t with
  | true =>
    simp only [hg, ldC, if_true] at hl
    split at hl
    · rename_i hn
      simp at hl; subst hl
      obtain ⟨vs, hr, hv⟩ := Row.vals (Row.take n hrow)
      have hlen : vs.length = n := by rw [← RepL.length hr]; simp; omega
      refine ⟨.agg vs.toArray, ?_, vs, rfl, hr⟩
      have := run_loadCells_list (P := P) E.w ⟨b, o, none⟩ vs (fun j v hj => by
        rw [Addr.add_mid, hv j (List.getElem?_eq_some_iff.1 hj).1]; exact hj)
      rw [hlen] at this
      simp [loadVar, Sem.run_bind, isAgg_run hg ha', sizeT_some hs, this]
    · simp at hl
  | false =>
    simp only [hg, ldC, Bool.false_eq_true, if_false] at hl
    cases cs with
    | nil => simp at hl
    | cons c cs =>
      simp at hl; subst hl
      simp only [Row] at hrow
      obtain ⟨⟨v, hv, hr⟩, _⟩ := hrow
      exact ⟨v, by simp [loadVar, Sem.run_bind, isAgg_run hg ha', hv], hr⟩

theorem Rr.row {c : Cx} {st : PS} {a : Act} {w : World} {ρ : Nat → Nat} (h : Rr c st a w ρ) {id : Nat} {cs : List PV} (hc : st.H id = some cs) (off : Nat) :
    cs.drop off = [] ∨ Row (enOf c.A0 w ρ st.H st.it st.nx) (ρ id) off (cs.drop off) := by
  cases cs with
  | nil => simp
  | cons x xs =>
    obtain ⟨vs, e, hb, hr⟩ := h.own.blk id _ hc (by simp)
    refine .inr (Row.of_block (E := enOf c.A0 w ρ st.H st.it st.nx) hb _ off (vs.toList.drop off) (RepL.drop off hr) fun i hi => ?_)
    simp

theorem ldP_sound {c : Cx} {st : PS} {a : Act} {w : World} {ρ : Nat → Nat} (h : Rr c st a w ρ) {t : TypeId} {n : Nat} {x p : PV} {v : Value} (hs : sizeT P t = some n) (ha : (aggT P t || oneT P t) = true)
    (hx : Rep (enOf c.A0 w ρ st.H st.it st.nx) x v) (hl : ldP (aggT P t) n st.H x = some p) :
    ∃ u, (Instr.loadAt t v).run P w = .ok u w ∧ Rep (enOf c.A0 w ρ st.H st.it st.nx) p u := by
  have nonil : ∀ (cs : List PV), cs = [] → ldC (aggT P t) n cs = some p → False := by
    rintro _ rfl hc
    cases hg : aggT P t <;> simp [ldC, hg] at hc; omega
  cases x with
  | rp cs =>
    simp only [Rep] at hx
    obtain ⟨b, o, rfl, hx⟩ := hx
    simp only [ldP] at hl
    rcases hx with hx | ⟨_, hx⟩
    · exact (nonil cs hx hl).elim
    · obtain ⟨u, hu, hr⟩ := load_sound (P := P) (E := enOf c.A0 w ρ st.H st.it st.nx) rfl hs ha hx hl
      exact ⟨u, by simpa [Instr.loadAt, Instr.sureAddr] using hu, hr⟩
  | ptr id off =>
    simp only [Rep] at hx
    obtain ⟨_, rfl⟩ := hx
    simp only [ldP] at hl
    cases hc : st.H id with
    | none => simp [hc] at hl
    | some cs =>
      simp only [hc] at hl
      rcases h.row hc off with hx | hx
      · exact (nonil _ hx hl).elim
      · obtain ⟨u, hu, hr⟩ := load_sound (P := P) (E := enOf c.A0 w ρ st.H st.it st.nx) rfl hs ha hx hl
        exact ⟨u, by simpa [Instr.loadAt, Instr.sureAddr] using hu, hr⟩
  | _ => simp [ldP] at hl

theorem binI_sound {op : BinOp} {k : IntKind} {a b : Int} {v : Value} (h : binI op k a b = some v) (t : TypeId) (w : World) (hop : op ≠ .shl ∧ op ≠ .shr) :
    (binOp op t (.int k a) (.int k b)).run P w = .ok v w := by
  cases op <;> simp [binI] at h <;> (try simp [binOp, Op.intArith, Op.intCmp])
  all_goals first
    | (have := arithV_some h; subst this; rfl)
    | (subst h; rfl)
    | (simp at hop; done)
    | skip
  case quo =>
    obtain ⟨h0, h⟩ := h
    have := arithV_some h; subst this
    simp [Op.intDiv, h0]
  case rem =>
    obtain ⟨h0, h⟩ := h
    subst h
    simp [Op.intDiv, h0]
  all_goals first
    | (simp [bitsV] at h; done)
    | (simp [bitsV] at h; subst h; simp [Op.intBits])
    | skip

theorem arith_wrap {k : IntKind} {z : Int} {v : Value} (h : arithV k z = some v) (w : World) : (Pure.pure (.int k (k.wrap z)) : Sem Value).run P w = .ok v w := by
  rw [arithV_some h]; rfl

theorem shiftV_sound {op : BinOp} {k k' : IntKind} {a b : Int} {v : Value} (h : shiftV op k a b = some v) (w : World) : (Op.shift op k a k' b).run P w = .ok v w := by
  unfold shiftV at h
  split at h
  · simp at h
  · rename_i hb
    cases op <;> simp at h
    · have := arithV_some h; subst this; simp [Op.shift, hb]
    · subst h; simp [Op.shift, hb]

theorem binV_sound {op : BinOp} {x y v : Value} (h : binV op x y = some v) (t : TypeId) (w : World) (hb : ∀ a b, x = .bool a → y = .bool b → boolT P t = true) :
    (binOp op t x y).run P w = .ok v w := by
  cases x <;> cases y <;> simp only [binV] at h <;> (try (simp at h; done))
  case bool.bool a b =>
    have hu : P.underlying t = some .bool := by
      have := hb a b rfl rfl
      unfold boolT at this; split at this <;> simp_all
    cases op <;> simp at h <;> subst h
    · have e : binOp .eql t (.bool a) (.bool b) = (do pure (.bool (← Op.equal t (.bool a) (.bool b)))) := rfl
      rw [e, Sem.run_bind, run_equal_bool w t a b hu]; rfl
    · have e : binOp .neq t (.bool a) (.bool b) = (do pure (.bool (!(← Op.equal t (.bool a) (.bool b))))) := rfl
      rw [e, Sem.run_bind, run_equal_bool w t a b hu]; rfl
  case int.int k a k' b =>
    cases op <;> simp only [] at h
    case shl => exact shiftV_sound (k' := k') h w
    case shr => exact shiftV_sound (k' := k') h w
    all_goals
      split at h
      · rename_i hk; subst hk; exact binI_sound h t w (by simp)
      · simp at h
  case string.string a b =>
    cases op <;> simp only [strV] at h <;> (try (simp at h; done))
    case add =>
      split at h
      · rename_i hs
        simp at h; subst h
        show (Op.stringOp .add a b).run P w = _
        unfold Op.stringOp
        have hs2 : ¬ (((a.size + b.size : Nat) : Int) > IntKind.i64.max) := by
          have : IntKind.i64.max = 9223372036854775807 := by decide
          rw [this]; omega
        simp only [hs2, if_false]
        rfl
      · simp at h
    case eql => simp at h; subst h; rfl
    case neq => simp at h; subst h; rfl

theorem eqGuard_sound {op : BinOp} {x y : Value} {u : Value} (h : binV op x y = some u) (t : TypeId) (p q : Operand) (w : World) : (eqGuard op t p q x y).run P w = .ok () w := by
  unfold eqGuard
  cases x <;> cases y <;> simp only [binV] at h <;> (try (simp at h; done)) <;> split <;> simp

theorem unV_sound {op : UnOp} {x v : Value} (h : unV op x = some v) (w : World) : (Op.unary op x).run P w = .ok v w := by
  cases x <;> simp only [unV] at h <;> (try (simp at h; done))
  case bool b => cases op <;> simp at h; subst h; rfl
  case int k a =>
    cases op <;> simp only [] at h <;> (try (simp at h; done))
    case neg => simpa [Op.unary, Op.intArith] using arith_wrap (P := P) h w
    case xor => simp [bitsV] at h; subst h; simp [Op.unary, Op.intBits]

theorem ByteArray_push (s : ByteArray) (b : UInt8) : s.push b = ⟨(s.data.toList ++ [b]).toArray⟩ := by
  cases s; simp [ByteArray.push]
  apply Array.ext'; simp

theorem addr_add (b o i : Nat) : (⟨b, o, none⟩ : Addr).add i = ⟨b, o + i, none⟩ := Addr.add_mid b o i

theorem idxP_sound {E : En} {t e : TypeId} {sz : Nat} {x p : PV} {v : Value} {k : IntKind} {n : Int} {w : World} (ht : elemT P t = some e) (hs : sizeT P e = some sz)
    (hx : Rep E x v) (hp : idxP sz x n = some p) : ∃ r, (Instr.indexAt t v (.int k n)).run P w = .ok r w ∧ Rep E p r := by
  have hu := elemT_some ht
  cases x with
  | sl len cs =>
    simp only [idxP] at hp
    split at hp
    · rename_i hn
      simp at hp; subst hp
      simp only [Rep] at hx
      rcases hx with ⟨h0, _, _⟩ | ⟨b, o, cap, rfl, _, hx⟩
      · omega
      refine ⟨.pointer (some ⟨b, o + n.toNat * sz, none⟩), ?_, ?_⟩
      · simp [Instr.indexAt, asIntOf, run_underlying hu, hn, sizeT_some hs, addr_add]
      · simp only [Rep]
        refine ⟨b, o + n.toNat * sz, rfl, ?_⟩
        rcases hx with hx | ⟨hA, hr⟩
        · exact .inl (by simp [hx])
        · exact .inr ⟨hA, Row.drop _ hr⟩
    · simp at hp
  | ref id off len cap z =>
    simp only [idxP] at hp
    split at hp
    · rename_i hn
      simp at hp; subst hp
      simp only [Rep] at hx
      obtain ⟨hid, hle, rfl | ⟨h0, _, _⟩⟩ := hx
      · refine ⟨.pointer (some ⟨E.ρ id, off + n.toNat * sz, none⟩), ?_, hid, rfl⟩
        simp [Instr.indexAt, asIntOf, run_underlying hu, hn, sizeT_some hs, addr_add]
      · omega
    · simp at hp
  | _ => simp [idxP] at hp

theorem fldP_sound {E : En} {s f off n : Nat} {t : TypeId} {x p : PV} {v : Value} {w : World} (hf : fieldT P s f = some (off, t)) (hs : sizeT P t = some (n + 1))
    (hx : Rep E x v) (hp : fldP off x = some p) : ∃ r, (Instr.fieldAt s v f).run P w = .ok r w ∧ Rep E p r := by
  unfold fieldT at hf
  cases hu : P.underlying s with
  | none => simp [hu] at hf
  | some d =>
    cases d <;> simp [hu] at hf
    rename_i fs
    obtain ⟨y, hy, rfl, rfl⟩ := hf
    have key : ∀ b o, (Instr.fieldAt s (.pointer (some ⟨b, o, none⟩)) f).run P w = .ok (.pointer (some ⟨b, o + y.offset, none⟩)) w := by
      intro b o
      simp [Instr.fieldAt, run_underlying hu, hy, Instr.sureAddr, fieldPlace, sizeT_some hs, addr_add]
    cases x with
    | rp cs =>
      simp [fldP] at hp; subst hp
      simp only [Rep] at hx
      obtain ⟨b, o, rfl, hx⟩ := hx
      refine ⟨_, key b o, ?_⟩
      simp only [Rep]
      refine ⟨b, _, rfl, ?_⟩
      rcases hx with hx | ⟨hA, hr⟩
      · exact .inl (by simp [hx])
      · exact .inr ⟨hA, Row.drop _ hr⟩
    | ptr id o =>
      simp [fldP] at hp; subst hp
      simp only [Rep] at hx
      obtain ⟨hid, rfl⟩ := hx
      exact ⟨_, key _ _, hid, rfl⟩
    | _ => simp [fldP] at hp


theorem bnd_sound {c : Cx} {st : PS} {a : Act} {w : World} {ρ : Nat → Nat} (h : Rr c st a w ρ) {x : Operand} {d n : Nat} (hb : bndP st d (some x) = some n) :
    ∃ k, a.eval x = .int k (n : Int) := by
  simp only [bndP] at hb
  have hx := h.ev x
  cases hv : st.ev x with
  | val v =>
    rw [hv] at hb hx
    cases v <;> simp at hb
    rename_i k m
    simp only [Rep] at hx
    exact ⟨k, by rw [hx]; congr 1; omega⟩
  | _ => simp [hv] at hb

theorem sliceBounds_sound {c : Cx} {st : PS} {a : Act} {w : World} {ρ : Nat → Nat} (h : Rr c st a w ρ) {lo hi : Option Operand} {len cap l u : Nat} (b : Bool)
    (hl : bndP st 0 lo = some l) (hh : bndP st len hi = some u) (h1 : l ≤ u) (h2 : u ≤ cap) :
    (Instr.sliceBounds b len cap (lo.map a.eval) (hi.map a.eval) none).run P w = .ok (l, u, cap) w := by
  have e1 : ∀ (k : IntKind) (n y : Nat) (code : BoundsCode), n ≤ y → (Instr.sliceBound (.int k (n : Int)) y code).run P w = .ok n w := by
    intro k n y code hn
    have : (0 : Int) ≤ n ∧ (n : Int) ≤ y := by omega
    simp [Instr.sliceBound, asIntOf, this]
  cases hi with
  | none =>
    simp [bndP] at hh; subst hh
    cases lo with
    | none => simp [bndP] at hl; subst hl; simp [Instr.sliceBounds]
    | some x =>
      obtain ⟨k, hk⟩ := bnd_sound h hl
      simp [Instr.sliceBounds, hk, e1 k l len _ h1]
  | some y =>
    obtain ⟨k, hk⟩ := bnd_sound h hh
    cases lo with
    | none => simp [bndP] at hl; subst hl; simp [Instr.sliceBounds, hk, e1 k u cap _ h2]
    | some x =>
      obtain ⟨k', hk'⟩ := bnd_sound h hl
      simp [Instr.sliceBounds, hk, hk', e1 k u cap _ h2, e1 k' l u _ h1]

theorem bytes_nums {E : En} : ∀ {cs : List PV} {vs : List Value} {l : List UInt8}, RepL E cs vs → bytesP cs = some l →
    ∃ ns : List Int, vs = ns.map (Value.int .u8) ∧ l = ns.map fun n => UInt8.ofNat n.toNat
  | [], [], l, _, hl => by simp [bytesP] at hl; subst hl; exact ⟨[], rfl, rfl⟩
  | p :: cs, v :: vs, l, h, hl => by
    simp only [RepL] at h
    cases p with
    | val x =>
      cases x <;> (try (simp [bytesP] at hl; done))
      rename_i k n
      cases k <;> simp [bytesP] at hl
      obtain ⟨l', hl', rfl⟩ := hl
      have hv : v = .int .u8 n := by simpa [Rep] using h.1
      obtain ⟨ns, rfl, rfl⟩ := bytes_nums h.2 hl'
      exact ⟨n :: ns, by simp [hv], by simp⟩
    | _ => simp [bytesP] at hl
  | [], _ :: _, _, h, _ => by simp [RepL] at h
  | _ :: _, [], _, h, _ => by simp [RepL] at h

theorem foldl_push (ns : List Int) : ∀ s : ByteArray, ns.foldl (fun r n => r.push (UInt8.ofNat n.toNat)) s = ⟨(s.data.toList ++ ns.map fun n => UInt8.ofNat n.toNat).toArray⟩ := by
  induction ns with
  | nil => intro s; simp
  | cons n ns ih => intro s; rw [List.foldl_cons, ih, ByteArray_push]; simp

theorem convBytes_sound {E : En} {b o len cap : Nat} {s d e : TypeId} {cs : List PV} {l : List UInt8} (hs : elemT P s = some e) (he : kindT P e = some .u8) (hd : strT P d = true)
    (hr : Row E b o cs) (hlen : cs.length = len) (hl : bytesP cs = some l) :
    (convert s d (.slice (some ⟨b, o, none⟩) len cap)).run P E.w = .ok (.string ⟨l.toArray⟩) E.w := by
  obtain ⟨vs, hv, hc⟩ := Row.vals hr
  obtain ⟨ns, rfl, rfl⟩ := bytes_nums hv hl
  have hlen' : ns.length = len := by rw [← hlen, RepL.length hv]; simp
  have := run_loadCells_list (P := P) E.w ⟨b, o, none⟩ (ns.map (Value.int .u8)) (fun j v hj => by
    rw [addr_add, hc j (List.getElem?_eq_some_iff.1 hj).1]; exact hj)
  rw [List.length_map, hlen'] at this
  rw [run_convert_bytes_string E.w s d e _ len cap (elemT_some hs) (kindT_some he) (strT_true hd), run_bytesToString E.w _ len cap ns this, foldl_push]
  rfl

theorem convP_sound {c : Cx} {st : PS} {a : Act} {w : World} {ρ : Nat → Nat} (h : Rr c st a w ρ) {s d : TypeId} {x p : PV} {v : Value}
    (hx : Rep (enOf c.A0 w ρ st.H st.it st.nx) x v) (hp : convP P st.H s d x = some p) :
    ∃ r, (convert s d v).run P w = .ok r w ∧ Rep (enOf c.A0 w ρ st.H st.it st.nx) p r := by
  have nonil : bytesP [] = some [] := rfl
  cases x with
  | val u =>
    simp only [Rep] at hx; subst hx
    cases v <;> simp only [convP] at hp <;> (try (simp at hp; done))
    case int k' n =>
      cases hk : kindT P s with
      | none => simp [hk] at hp
      | some sk =>
        cases hk2 : kindT P d with
        | none => simp [hk, hk2] at hp
        | some k =>
          simp only [hk, hk2] at hp
          cases hc : convI sk k n with
          | none => simp [hc] at hp
          | some u =>
            simp [hc] at hp; subst hp
            refine ⟨u, ?_, by simp [Rep]⟩
            have hu : u = .int k (k.wrap n) := by
              unfold convI at hc
              split at hc
              · split at hc
                · simp at hc; exact hc.symm
                · exact arithV_some hc
              · simp at hc; exact hc.symm
            subst hu
            simp [convert, run_underlying (kindT_some hk), run_underlying (kindT_some hk2), Conv.intToInt]
    case string b =>
      split at hp
      · rename_i hd
        simp at hp; subst hp
        exact ⟨.string b, by simp [convert, run_underlying (strT_true hd.1), run_underlying (strT_true hd.2)], by simp [Rep]⟩
      · simp at hp
  | sl n cs =>
    simp only [convP] at hp
    split at hp
    · rename_i hd
      obtain ⟨hd1, hd2⟩ := hd
      obtain ⟨e, he1, he2⟩ := Option.bind_eq_some_iff.1 hd2
      split at hp
      · rename_i hlen
        cases hb : bytesP cs with
        | none => simp [hb] at hp
        | some l =>
          simp [hb] at hp; subst hp
          simp only [Rep] at hx
          rcases hx with ⟨rfl, rfl, a, rfl⟩ | ⟨b, o, cap, rfl, _, hx⟩
          · simp [bytesP] at hb; subst hb
            refine ⟨.string ⟨#[]⟩, ?_, by simp [Rep]⟩
            rw [run_convert_bytes_string w s d e _ 0 0 (elemT_some he1) (kindT_some he2) (strT_true hd1)]
            cases a with
            | none => simp [Conv.bytesToString]; rfl
            | some a => simp [Conv.bytesToString, loadCells]; rfl
          · refine ⟨.string ⟨l.toArray⟩, ?_, by simp [Rep]⟩
            have hr : Row (enOf c.A0 w ρ st.H st.it st.nx) b o cs := by
              rcases hx with hx | ⟨_, hx⟩
              · subst hx; simp [Row]
              · exact hx
            exact convBytes_sound (E := enOf c.A0 w ρ st.H st.it st.nx) he1 he2 hd1 hr hlen hb
      · simp at hp
    · simp at hp
  | ref id off n cap z =>
    simp only [convP] at hp
    split at hp
    · rename_i hd
      obtain ⟨hd1, hd2⟩ := hd
      obtain ⟨e, he1, he2⟩ := Option.bind_eq_some_iff.1 hd2
      cases hc : st.H id with
      | none => simp [hc] at hp
      | some cs =>
        simp only [hc] at hp
        split at hp
        · rename_i hlen
          cases hb : bytesP ((cs.drop off).take n) with
          | none => simp [hb] at hp
          | some l =>
            simp [hb] at hp; subst hp
            simp only [Rep] at hx
            obtain ⟨_, _, rfl | ⟨rfl, _, rfl⟩⟩ := hx
            · refine ⟨.string ⟨l.toArray⟩, ?_, by simp [Rep]⟩
              have hr : Row (enOf c.A0 w ρ st.H st.it st.nx) (ρ id) off ((cs.drop off).take n) := by
                rcases h.row hc off with hx | hx
                · rw [hx]; simp [Row]
                · exact Row.take n hx
              exact convBytes_sound (E := enOf c.A0 w ρ st.H st.it st.nx) he1 he2 hd1 hr (by simp; omega) hb
            · simp [bytesP] at hb; subst hb
              refine ⟨.string ⟨#[]⟩, ?_, by simp [Rep]⟩
              rw [run_convert_bytes_string w s d e _ 0 0 (elemT_some he1) (kindT_some he2) (strT_true hd1)]
              simp [Conv.bytesToString]; rfl
        · simp at hp
    · simp at hp
  | _ => simp [convP] at hp

theorem sliceP_sound {E : En} {t e : TypeId} {sz lo hi : Nat} {x p : PV} {v : Value} {w : World} {l u : Option Value} {len : Nat} (ht : elemT P t = some e) (hs : sizeT P e = some sz)
    (hx : Rep E x v) (hn : lenP x = some len) (hns : ∀ s, x ≠ .val (.string s))
    (hb : ∀ cap, hi ≤ cap → (Instr.sliceBounds true len cap l u none).run P w = .ok (lo, hi, cap) w)
    (hp : sliceP sz x lo hi = some p) : ∃ r, (Instr.slice t v l u none).run P w = .ok r w ∧ Rep E p r := by
  have hu := elemT_some ht
  cases x with
  | val y =>
    simp only [Rep] at hx; subst hx
    cases v with
    | string s => exact absurd rfl (hns s)
    | slice b n cap =>
      cases b with
      | some b => simp [sliceP] at hp
      | none =>
        cases n with
        | succ n => simp [sliceP] at hp
        | zero =>
          cases cap with
          | succ n => simp [sliceP] at hp
          | zero =>
            simp [sliceP] at hp
            obtain ⟨⟨rfl, rfl⟩, rfl⟩ := hp
            simp [lenP] at hn; subst hn
            have := hb 0 (Nat.le_refl _)
            exact ⟨.slice none 0 0, by simp [Instr.slice, run_underlying hu, this, sizeT_some hs], by simp [Rep]⟩
    | _ => simp [sliceP] at hp
  | sl n cs =>
    simp [lenP] at hn; subst hn
    simp only [sliceP] at hp
    split at hp
    · rename_i hc
      simp at hp; subst hp
      simp only [Rep] at hx
      rcases hx with ⟨rfl, rfl, a, rfl⟩ | ⟨b, o, cap, rfl, hcap, hx⟩
      · have h1 : hi = 0 := by omega
        have h2 : lo = 0 := by omega
        subst h1; subst h2
        have := hb 0 (Nat.le_refl _)
        exact ⟨.slice a 0 0, by simp [Instr.slice, run_underlying hu, this, sizeT_some hs], by simp [Rep]⟩
      · have := hb cap (by omega)
        refine ⟨.slice (if cap = lo then some ⟨b, o, none⟩ else some ⟨b, o + lo * sz, none⟩) (hi - lo) (cap - lo), ?_, ?_⟩
        · simp [Instr.slice, run_underlying hu, this, sizeT_some hs, addr_add]
        · simp only [Rep]
          by_cases he : cap = lo
          · subst he
            refine .inr ⟨b, o, cap - cap, by simp, by omega, .inl ?_⟩
            have : hi = cap := by omega
            subst this; simp
          · refine .inr ⟨b, o + lo * sz, cap - lo, by simp [he], by omega, ?_⟩
            rcases hx with hx | ⟨hA, hr⟩
            · exact .inl (by simp [hx])
            · exact .inr ⟨hA, Row.take _ (Row.drop _ hr)⟩
    · simp at hp
  | ref id off n cap z =>
    simp [lenP] at hn; subst hn
    simp only [sliceP] at hp
    split at hp
    · rename_i hc
      simp at hp; subst hp
      simp only [Rep] at hx
      obtain ⟨hid, hle, rfl | ⟨rfl, rfl, rfl⟩⟩ := hx
      · have := hb cap hc.2
        refine ⟨.slice (if cap = lo then some ⟨E.ρ id, off, none⟩ else some ⟨E.ρ id, off + lo * sz, none⟩) (hi - lo) (cap - lo), ?_, ?_⟩
        · simp [Instr.slice, run_underlying hu, this, sizeT_some hs, addr_add]
        · simp only [Rep]
          refine ⟨hid, by omega, .inl ?_⟩
          split <;> simp_all
      · have h1 : hi = 0 := by omega
        have h2 : lo = 0 := by omega
        subst h1; subst h2
        have := hb 0 (Nat.le_refl _)
        exact ⟨.slice none 0 0, by simp [Instr.slice, run_underlying hu, this, sizeT_some hs], by simp only [Rep]; exact ⟨hid, by omega, .inr (by simp)⟩⟩
    · simp at hp
  | _ => simp [sliceP] at hp

end Go.Proofs.Ytfjdfnlkobeehaa
end
