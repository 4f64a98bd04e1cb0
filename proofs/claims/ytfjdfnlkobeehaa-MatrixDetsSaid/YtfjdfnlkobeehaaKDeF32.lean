/- Part 32 of the way to the statement: the walk and what it needs. -/
import Derived.Test.YtfjdfnlkobeehaaKDeF23
section
set_option linter.unusedVariables false
set_option linter.unusedSimpArgs false
namespace Go.Proofs.Ytfjdfnlkobeehaa

variable {P : Program}


theorem append_ownS {st : PS} {t t' e : TypeId} {b id n cap m sz : Nat} {z : List Value} {cs ys : List PV} {rest : List Value} {y : PV} {K : PV → PS → Prop} (he : elemT P t = some e) (he' : (elemT P t').isSome = true) (hsz : sizeT P e = some sz) (hb : bytesT P e = some b)
    (hz : zeroT P e = some z) (hzl : z.length = sz) (hs : srcP st.H sz y = some (m, ys)) (hone : ys.all oneP = true) (hH : st.H id = some (cs ++ rest.map .val)) (hn : cs.length = n * sz) (hc : n * sz + rest.length = cap * sz) (hm : ys.length = m * sz)
    (hbig : (n + m) * b ≤ 140737488355328 ∧ n + m ≤ 140737488355328)
    (hk : ∀ (id' cap' : Nat) (rest' : List Value) (H' : Nat → Option (List PV)) (nx' : Nat), H' id' = some ((cs ++ ys) ++ List.map PV.val rest') → (n + m) * sz + rest'.length = cap' * sz → (id' = id ∨ id' = st.nx) → (id' = id ∧ nx' = st.nx ∨ nx' = st.nx + 1) → (∀ j, j ≠ id → j ≠ st.nx → H' j = st.H j) → (id' ≠ id → H' id = st.H id) → K (.ref id' 0 (n + m) cap' sz) (st.withH H' nx')) :
    pAppend P st t t' (.ref id 0 n cap sz) y K := by
  have hadd : (n + m) * sz = n * sz + m * sz := Nat.add_mul ..
  have ecs : ((cs ++ List.map PV.val rest).drop 0).take (n * sz) = cs := by
    rw [List.drop_zero, ← hn, List.take_left]
  refine ⟨e, he, he', sz, hsz, b, hb, z, hz, hzl, m, ys, hs, hone, cs ++ rest.map .val, hH, by simp; omega, hbig.1, hbig.2, fun h => ?_, fun h cap' rest' h1 h2 h3 => ?_⟩
  · have hle : (n + m) * sz ≤ cap * sz := Nat.mul_le_mul_right _ h
    refine ⟨by simp; omega, ?_⟩
    refine hk id cap (rest.drop (m * sz)) (upd st.H id (some (spl (cs ++ rest.map .val) (0 + n * sz) ys))) st.nx ?_ ?_ (.inl rfl) (.inl ⟨rfl, rfl⟩) (fun j hj _ => upd_ne _ _ hj) (fun h => absurd rfl h)
    · rw [upd_self]
      have : spl (cs ++ rest.map .val) (0 + n * sz) ys = cs ++ ys ++ (rest.drop (m * sz)).map .val := by
        unfold spl
        have e1 : (cs ++ List.map PV.val rest).take (0 + n * sz) = cs := by
          rw [Nat.zero_add, ← hn, List.take_left]
        have e2 : (cs ++ List.map PV.val rest).drop (0 + n * sz + ys.length) = (rest.drop (m * sz)).map .val := by
          rw [Nat.zero_add, ← hn, hm, List.drop_append]
          simp
        rw [e1, e2, List.append_assoc]
      rw [this]
    · rw [List.length_drop]; omega
  · have hcap' : (n + m) * sz + (cap' - (n + m)) * sz = cap' * sz := by rw [← Nat.add_mul]; congr 1; omega
    refine hk st.nx cap' rest' (upd st.H st.nx (some ((((cs ++ rest.map PV.val).drop 0).take (n * sz) ++ ys) ++ rest'.map PV.val))) (st.nx + 1) ?_ (by omega) (.inr rfl) (.inr rfl) (fun j _ hj => upd_ne _ _ hj) (fun hne => upd_ne _ _ (Ne.symm hne))
    rw [upd_self, ecs]


theorem append_ownSX {st : PS} {t t' e : TypeId} {b id n cap m sz : Nat} {z : List Value} {cs ys : List PV} {rest : List Value} {y : PV} {K : PV → PS → Prop} (hx : elemT P t = some e ∧ (elemT P t').isSome = true ∧ sizeT P e = some sz ∧ bytesT P e = some b ∧ zeroT P e = some z ∧ srcP st.H sz y = some (m, ys) ∧ ys.all oneP = true ∧ st.H id = some (cs ++ rest.map .val))
    (hzl : z.length = sz) (hn : cs.length = n * sz) (hc : n * sz + rest.length = cap * sz) (hm : ys.length = m * sz) (hbig : (n + m) * b ≤ 140737488355328 ∧ n + m ≤ 140737488355328)
    (hk : ∀ (id' cap' : Nat) (rest' : List Value) (H' : Nat → Option (List PV)) (nx' : Nat), H' id' = some ((cs ++ ys) ++ List.map PV.val rest') → (n + m) * sz + rest'.length = cap' * sz → (id' = id ∨ id' = st.nx) → (id' = id ∧ nx' = st.nx ∨ nx' = st.nx + 1) → (∀ j, j ≠ id → j ≠ st.nx → H' j = st.H j) → (id' ≠ id → H' id = st.H id) → K (.ref id' 0 (n + m) cap' sz) (st.withH H' nx')) :
    pAppend P st t t' (.ref id 0 n cap sz) y K :=
  append_ownS hx.1 hx.2.1 hx.2.2.1 hx.2.2.2.1 hx.2.2.2.2.1 hzl hx.2.2.2.2.2.1 hx.2.2.2.2.2.2.1 hx.2.2.2.2.2.2.2 hn hc hm hbig hk


theorem Gh.nilW {st : PS} (t sz : Nat) (ht : st.sl t = .val (.slice none 0 0)) : Gh st ((st.put (some t) (.ref st.nx 0 0 0 sz)).withH (upd st.H st.nx (some [])) (st.nx + 1)) := Gh.nil t sz ht

theorem LW.loopG {c : Cx} {n : Nat} {x : Code} {Q : Exit → PS → Prop} {st : PS} {tb : List (Nat × List (Nat × List Nat))} (hn : c.n = n) (ht : c.tb = tb) (hk : codeOK P n tb x = true) (I : PS → Prop) (μ : PS → Nat) (h0 : I st)
    (h : ∀ s, I s → ∃ s', Gh s s' ∧ pw P c x (seqQ (fun s2 => I s2 ∧ μ s2 < μ s) Q) s') : LW P c (.loop x) Q st :=
  LW.loop I μ h0 fun s hs => by
    obtain ⟨s', hg, hp⟩ := h s hs
    exact LW.ghost hg (LW.walk hn ht hk hp)

theorem Gh.frzW {st : PS} (t : Nat) (d : Nat) {q : PV} (hq : Ytfjdfnlkobeehaa.frz (fun _ => true) st.H d (st.sl t) = some q) : Gh st ((st.put (some t) q).withH (fun _ => none) st.nx) := by
  have := Gh.freeze (st := st) t (fun _ => true) d hq
  have e : dropH (fun _ => true) st.H = fun _ => none := rfl
  rw [e] at this
  exact this

theorem pCall_ownF {f : FuncId} {args args' : List PV} {st : PS} {K : PV → PS → Prop} {mk : PV → PV} {cs : List PV} (hmk : Mk1 mk) (hv : args.map (view st.H) = args') (hf : flatL args' = true) (hfa : flatL args = true) (hfl : flatL cs = true)
    (h : PO1 P f args' mk cs)
    (hk : ∀ (id cap : Nat) (rest : List Value) (n : Nat), st.nx ≤ id → id < n → cs.length + List.length rest = cap → K (mk (.ref id 0 cs.length cap 1)) (st.withH (upd st.H id (some (cs ++ rest.map .val))) n)) : pCall P f args st K := by
  refine ⟨_, _, GhA.refl _ _, .inl ⟨by rw [hv]; exact hf, ?_⟩⟩
  rw [hv]
  refine PCalls.mono h ?_
  rintro r H' n ⟨id, cap, rest, rfl, rfl, hcap⟩
  refine ⟨fun e => by rw [hfa] at e; simp at e, fun hwf hwf' => ?_⟩
  · have hlt : id < n := by
      rcases Nat.lt_or_ge id n with h | h
      · exact h
      · have := hwf' id h; rw [upd_self] at this; simp at this
    rw [hmk.shift, joinH_upd, joinH_none hwf, shiftL_flat _ _ (flatL_app' hfl (flatL_val _))]
    exact ghK_intro (hk (id + st.nx) cap rest (st.nx + n) (by omega) (by omega) hcap)


end Go.Proofs.Ytfjdfnlkobeehaa
end
