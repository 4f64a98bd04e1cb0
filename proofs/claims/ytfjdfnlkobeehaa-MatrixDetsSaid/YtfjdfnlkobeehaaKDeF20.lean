/- Part 20 of the way to the statement: the walk and what it needs. -/
import Derived.Test.YtfjdfnlkobeehaaKDeF18
section
set_option linter.unusedVariables false
set_option linter.unusedSimpArgs false
namespace Go.Proofs.Ytfjdfnlkobeehaa

variable {P : Program}

theorem closedL_app {l m : List PV} (h : closedL l = true) (h' : closedL m = true) : closedL (l ++ m) = true := by
  induction l with
  | nil => exact h'
  | cons x l ih => simp only [closedL, Bool.and_eq_true] at h; simp only [List.cons_append, closedL, Bool.and_eq_true]; exact ⟨h.1, ih h.2⟩
theorem closedL_val (l : List Value) : closedL (l.map .val) = true := by
  induction l with
  | nil => rfl
  | cons x l ih => simp [closedL, closed, ih]
theorem flatL_val (l : List Value) : flatL (l.map .val) = true := by
  induction l with
  | nil => rfl
  | cons x l ih => simp [flatL, flat, ih]
theorem flatL_app' {l m : List PV} (h : flatL l = true) (h' : flatL m = true) : flatL (l ++ m) = true := by
  induction l with
  | nil => exact h'
  | cons x l ih => simp only [flatL, Bool.and_eq_true] at h; simp only [List.cons_append, flatL, Bool.and_eq_true]; exact ⟨h.1, ih h.2⟩

theorem mapM_up {f g : PV → Option PV} (h : ∀ x q, f x = some q → g x = some q) : ∀ {l r : List PV}, l.mapM f = some r → l.mapM g = some r
  | [], r, hm => by simpa using hm
  | x :: l, r, hm => by
    rw [List.mapM_cons] at hm ⊢
    cases h1 : f x with
    | none => simp [h1] at hm
    | some q =>
      cases h2 : l.mapM f with
      | none => simp [h1, h2] at hm
      | some qs =>
        simp [h1, h2] at hm; subst hm
        rw [h x q h1, mapM_up h h2]; rfl
theorem frz_up (D : Nat → Bool) (H : Nat → Option (List PV)) : ∀ (d : Nat) (p q : PV), frz D H d p = some q → frz D H (d + 1) p = some q
  | 0, p, q, h => by
    simp only [frz] at h
    split at h
    · rename_i hf
      rw [frz_flat D H 1 p hf]; exact h
    · simp at h
  | d + 1, p, q, h => by
    have up := fun {l r : List PV} (hm : l.mapM (frz D H d) = some r) => mapM_up (g := frz D H (d + 1)) (fun x q hx => frz_up D H d x q hx) hm
    cases p with
    | ref id off n cap sz =>
      rw [frz_ref] at h ⊢
      split at h
      · rename_i hD
        rw [if_pos hD]
        cases hc : H id with
        | none => simp [hc] at h
        | some cs =>
          simp only [hc, Option.bind_some] at h ⊢
          split at h
          · rename_i hle
            rw [if_pos hle]
            cases hm : ((cs.drop off).take (n * sz)).mapM (frz D H d) with
            | none => simp [hm] at h
            | some qs => rw [up hm]; simp [hm] at h; subst h; rfl
          · simp at h
      · simp at h
    | ptr id off =>
      simp only [frz] at h ⊢
      split at h
      · rename_i hD
        rw [if_pos hD]
        cases hc : H id with
        | none => simp [hc] at h
        | some cs =>
          simp only [hc, Option.bind_some] at h ⊢
          cases hm : (cs.drop off).mapM (frz D H d) with
          | none => simp [hm] at h
          | some qs => rw [up hm]; simp [hm] at h; subst h; rfl
      · simp at h
    | agg cs =>
      simp only [frz] at h ⊢
      cases hm : cs.mapM (frz D H d) with
      | none => simp [hm] at h
      | some qs => rw [up hm]; simp [hm] at h; subst h; rfl
    | tup cs =>
      simp only [frz] at h ⊢
      cases hm : cs.mapM (frz D H d) with
      | none => simp [hm] at h
      | some qs => rw [up hm]; simp [hm] at h; subst h; rfl
    | _ => simp only [frz] at h ⊢; exact h


def own1Q (mk : PV → PV) (cs : List PV) (r : PV) (H' : Nat → Option (List PV)) (_ : Nat) : Prop :=
  ∃ (id cap : Nat) (rest : List Value), r = mk (.ref id 0 cs.length cap 1) ∧ H' = upd (fun _ => none) id (some (cs ++ rest.map .val)) ∧ cs.length + rest.length = cap
def PO1 (P : Program) (f : FuncId) (args : List PV) (mk : PV → PV) (cs : List PV) : Prop :=
  PCalls P f args (fun _ => none) 0 (own1Q mk cs)


def own2Q (mk : PV → PV → PV) (cs ds : List PV) (r : PV) (H' : Nat → Option (List PV)) (_ : Nat) : Prop :=
  ∃ (id cap : Nat) (rest : List Value) (id2 cap2 : Nat) (rest2 : List Value), r = mk (.ref id 0 cs.length cap 1) (.ref id2 0 ds.length cap2 1) ∧ id ≠ id2 ∧
    H' = upd (upd (fun _ => none) id (some (cs ++ rest.map .val))) id2 (some (ds ++ rest2.map .val)) ∧ cs.length + rest.length = cap ∧ ds.length + rest2.length = cap2
def PO2 (P : Program) (f : FuncId) (args : List PV) (mk : PV → PV → PV) (cs ds : List PV) : Prop :=
  PCalls P f args (fun _ => none) 0 (own2Q mk cs ds)


structure Mk1 (mk : PV → PV) : Prop where
  shift : ∀ k p, shift k (mk p) = mk (Ytfjdfnlkobeehaa.shift k p)
  closed : ∀ p, closed p = true → closed (mk p) = true
  frz : ∀ D H d p q, frz D H d p = some q → Ytfjdfnlkobeehaa.frz D H (d + 1) (mk p) = some (mk q)
  flat : ∀ p, flat p = true → flat (mk p) = true
  rep : ∀ {E E' : En} {p q : PV} {v : Value}, E.le E' → (∀ u, Rep E p u → Rep E' q u) → Rep E (mk p) v → Rep E' (mk q) v

theorem joinH_none {H : Nat → Option (List PV)} {nx : Nat} (hw : ∀ i, nx ≤ i → H i = none) : joinH H nx (fun _ => none) = H := by
  funext i
  unfold joinH
  split
  · rfl
  · rename_i hi; rw [hw i (Nat.not_lt.1 hi)]; rfl
theorem joinH_upd {H G : Nat → Option (List PV)} {nx id : Nat} {cs : List PV} : joinH H nx (upd G id (some cs)) = upd (joinH H nx G) (id + nx) (some (shiftL nx cs)) := by
  funext i
  unfold joinH
  by_cases h : i = id + nx
  · subst h; rw [upd_self, if_neg (by omega), Nat.add_sub_cancel, upd_self]; rfl
  · rw [upd_ne _ _ h]
    split
    · rfl
    · rw [upd_ne _ _ (by omega)]


theorem pCall_own1 {f : FuncId} {args args' : List PV} {st : PS} {K : PV → PS → Prop} {mk : PV → PV} {cs : List PV} (hmk : Mk1 mk) (hv : args.map (view st.H) = args') (hf : flatL args' = true) (hcl : closedL cs = true) (hfl : flatL cs = true)
    (h : PO1 P f args' mk cs)
    (hk : ∀ (id cap : Nat) (rest : List Value) (n : Nat), st.nx ≤ id → id < n → cs.length + List.length rest = cap → K (mk (.ref id 0 cs.length cap 1)) (st.withH (upd st.H id (some (cs ++ rest.map .val))) n)) : pCall P f args st K := by
  refine ⟨_, _, GhA.refl _ _, .inl ⟨by rw [hv]; exact hf, ?_⟩⟩
  rw [hv]
  refine PCalls.mono h ?_
  rintro r H' n ⟨id, cap, rest, rfl, rfl, hcap⟩
  refine ⟨fun _ => ⟨hmk.closed _ rfl, fun i ds hd => ?_⟩, fun hwf hwf' => ?_⟩
  · by_cases hi : i = id
    · subst hi; rw [upd_self] at hd; simp at hd; subst hd; exact closedL_app hcl (closedL_val _)
    · rw [upd_ne _ _ hi] at hd; simp at hd
  · have hlt : id < n := by
      rcases Nat.lt_or_ge id n with h | h
      · exact h
      · have := hwf' id h; rw [upd_self] at this; simp at this
    rw [hmk.shift, joinH_upd, joinH_none hwf, shiftL_flat _ _ (flatL_app' hfl (flatL_val _))]
    exact ghK_intro (hk (id + st.nx) cap rest (st.nx + n) (by omega) (by omega) hcap)


theorem PO1.tree {f : FuncId} {args : List PV} {mk : PV → PV} {cs : List PV} (hmk : Mk1 mk) (hfl : flatL cs = true) (h : PO1 P f args mk cs) : PT P f args (isV (mk (.sl cs.length cs))) := by
  refine ⟨h.1, fun w vs ρ A0 h1 h2 h3 => (h.2 w vs ρ A0 h1 h2 h3).mono ?_⟩
  rintro e w' ⟨v, r, H', nx', ρ', he, ⟨id, cap, rest, rfl, rfl, hcap⟩, hnx, hρ, hown, hrep, hframe, hsize, hsw⟩
  let c : Cx := { F := fun b => b < w.heap.size ∧ ¬ OwnB ρ (fun _ => none) (fun _ => none) b, w0 := w', A0 := A0, ρ0 := ρ', k := 0, n := 0, tb := [] }
  let st : PS := { sl := fun _ => .any, H := upd (fun _ => none) id (some (cs ++ rest.map .val)), it := fun _ => none, nx := nx' }
  have hR : Rr c st { tmps := #[], defers := [] } w' ρ' :=
    ⟨hown, fun t => by simp [st, Rep], rfl, rfl, fun _ _ => rfl, Nat.le_refl _, Nat.zero_le _, fun _ _ => rfl, fun b hb => Nat.lt_of_lt_of_le hb.1 hsize, fun b hb => Nat.lt_of_lt_of_le (h1 b hb) hsize, Sw.refl _⟩
  have hfz : frz (fun _ => true) st.H 1 (.ref id 0 cs.length cap 1) = some (.sl cs.length cs) := by
    simp only [frz_ref, if_true, st, upd_self, Option.bind_some]
    rw [if_pos (by simp)]
    simp only [List.drop_zero, Nat.mul_one, List.take_left]
    have := frzL_flat (fun _ => true) (upd (fun _ => none) id (some (cs ++ rest.map .val))) 0 hfl
    rw [this]; rfl
  have hfz2 := hmk.frz _ _ _ _ _ hfz
  have hd := hR.drop (H' := dropH (fun _ => true) st.H) (it' := fun _ => none) (fun i => .inr rfl) (fun i => .inl rfl)
  have hr := frz_sound hR (fun _ => true) 2 _ _ v hfz2 hrep
  have hH : dropH (fun _ => true) st.H = fun _ => none := rfl
  rw [hH] at hd hr
  exact ⟨v, _, fun _ => none, nx', ρ', he, ⟨hmk.flat _ (by simpa [flat] using hfl), rfl⟩, hnx, hρ, hd.1.own, hr, hframe, hsize, hsw⟩


theorem pCall_mem {f : FuncId} {args : List PV} {st : PS} {K : PV → PS → Prop} {Q : PV → (Nat → Option (List PV)) → Nat → Prop} (h : PCalls P f args st.H st.nx Q)
    (hk : ∀ r H' nx', Q r H' nx' → st.nx ≤ nx' → K r (st.withH H' nx')) : pCall P f args st K :=
  ⟨_, _, GhA.refl _ _, .inr (PCalls.mono h fun r H' nx' hq _ _ hn => ghK_intro (hk r H' nx' hq hn))⟩


theorem end_own1 {rs : List ResultVar} {st : PS} {mk : PV → PV} {cs : List PV} {id cap n : Nat} {rest : List Value} (h : obind (resP P st rs) fun ps => tupP ps = mk (.ref id 0 n cap 1)) (hH : st.H id = some (cs ++ rest.map .val)) (hn : cs.length = n)
    (hcap : cs.length + rest.length = cap) :
    endQ P rs (own1Q mk cs) .ret st := by
  subst hn
  obtain ⟨ps, h1, h2⟩ := h
  refine ⟨ps, h1, mk (.ref id 0 cs.length cap 1), { st with H := upd (fun _ => none) id (some (cs ++ rest.map .val)), it := fun _ => none }, ?_, id, cap, rest, rfl, rfl, hcap⟩
  rw [h2]
  rintro c a w v ⟨ρ, hR, hr⟩
  have hd := hR.drop (H' := upd (fun _ => none) id (some (cs ++ rest.map .val))) (it' := fun _ => none) (fun i => by
    by_cases hi : i = id
    · subst hi; rw [upd_self]; exact .inl hH.symm
    · rw [upd_ne _ _ hi]; exact .inr rfl) (fun i => .inr rfl)
  exact ⟨ρ, hd.1, Rep.mono hd.2 _ _ hr⟩


theorem end_own_nil {rs : List ResultVar} {st : PS} {mk : PV → PV} (hmk : Mk1 mk) (h : obind (resP P st rs) fun ps => tupP ps = mk (.val (.slice none 0 0))) :
    endQ P rs (own1Q mk []) .ret st := by
  obtain ⟨ps, h1, h2⟩ := h
  refine ⟨ps, h1, mk (.ref st.nx 0 0 0 1), { st with H := upd (fun _ => none) st.nx (some []), it := fun _ => none, nx := st.nx + 1 }, ?_, st.nx, 0, [], rfl, rfl, rfl⟩
  rw [h2]
  rintro c a w v ⟨ρ, hR, hr⟩
  have hl : ∀ i, ¬ Live (upd (fun _ => none) st.nx (some ([] : List PV))) (fun _ => none) i := by
    rintro i (⟨cs, hc, hne⟩ | hi)
    · by_cases hx : i = st.nx
      · subst hx; rw [upd_self] at hc; simp at hc; exact hne hc
      · rw [upd_ne _ _ hx] at hc; simp at hc
    · exact hi rfl
  have hle : En.le (enOf c.A0 w ρ st.H st.it st.nx) (enOf c.A0 w ρ (upd (fun _ => none) st.nx (some [])) (fun _ => none) (st.nx + 1)) :=
    ⟨fun _ _ _ _ hv => hv, fun b _ _ hA _ hA' => hA (hA'.imp id fun ⟨i, hi, e⟩ => absurd hi (hl i)), Nat.le_succ _, fun _ _ => rfl⟩
  refine ⟨ρ, ⟨⟨fun i hi => ?_, fun i cs hc hne => rfl, fun i j hi => absurd hi (hl i), fun i cs hc hne => ?_, fun i s p hi => by simp at hi, fun i hi => absurd hi (hl i)⟩,
    fun t => Rep.mono hle _ _ (hR.slots t), hR.size, hR.defers, hR.frame, hR.grow, Nat.le_succ_of_le hR.ids, hR.ρk, hR.fF, hR.fA, hR.sw⟩, ?_⟩
  · by_cases hx : i = st.nx
    · exact hx ▸ Nat.lt_succ_self _
    · simp only [upd_ne _ _ hx] at hi; simp at hi
  · exact absurd (.inl ⟨cs, hc, hne⟩) (hl i)
  · refine hmk.rep hle (fun u hu => ?_) hr
    simp only [Rep] at hu
    simp only [Rep]
    exact ⟨Nat.lt_succ_self _, Nat.le_refl _, .inr ⟨trivial, trivial, hu⟩⟩

theorem mk_id : Mk1 (fun p => p) := ⟨fun _ _ => rfl, fun _ h => h, fun D H d p q h => by
    cases p with
    | any => cases d <;> simp only [frz] at h ⊢ <;> exact h
    | val v => cases d <;> simp only [frz] at h ⊢ <;> exact h
    | sl n cs => cases d <;> simp only [frz] at h ⊢ <;> exact h
    | rp cs => cases d <;> simp only [frz] at h ⊢ <;> exact h
    | fn f cs => cases d <;> simp only [frz] at h ⊢ <;> exact h
    | ref id off n cap sz => exact frz_up D H d _ _ h
    | ptr id off => exact frz_up D H d _ _ h
    | agg cs => exact frz_up D H d _ _ h
    | tup cs => exact frz_up D H d _ _ h, fun _ h => h, fun _ h hr => h _ hr⟩

theorem srcP_ref {H : Nat → Option (List PV)} {sz id off n cap z : Nat} : srcP H sz (.ref id off n cap z) = (H id).bind fun cs => if off + n * sz ≤ cs.length then some (n, (cs.drop off).take (n * sz)) else none := by
  simp only [srcP]; cases H id <;> rfl
theorem srcP_sl {H : Nat → Option (List PV)} {sz n : Nat} {cs : List PV} : srcP H sz (.sl n cs) = if cs.length = n * sz then some (n, cs) else none := rfl
theorem srcP_nil {H : Nat → Option (List PV)} {sz : Nat} : srcP H sz (.val (.slice none 0 0)) = some (0, []) := rfl


def memQ (x : PV) (H : Nat → Option (List PV)) (nx : Nat) (r : PV) (H' : Nat → Option (List PV)) (nx' : Nat) : Prop := r = x ∧ H' = H ∧ nx' = nx


theorem append_own {st : PS} {t t' e : TypeId} {b id n cap m : Nat} {z : Value} {cs ys : List PV} {rest : List Value} {y : PV} {K : PV → PS → Prop} (he : elemT P t = some e) (he' : (elemT P t').isSome = true) (hsz : sizeT P e = some 1) (hb : bytesT P e = some b)
    (hz : zeroT P e = some [z]) (hs : srcP st.H 1 y = some (m, ys)) (hone : ys.all oneP = true) (hH : st.H id = some (cs ++ rest.map .val)) (hn : cs.length = n) (hc : n + rest.length = cap) (hm : ys.length = m) (hbig : (n + m) * b ≤ 140737488355328 ∧ n + m ≤ 140737488355328)
    (hk : ∀ (id' cap' : Nat) (rest' : List Value) (H' : Nat → Option (List PV)) (nx' : Nat), H' id' = some ((cs ++ ys) ++ List.map PV.val rest') → n + m + rest'.length = cap' → (id' = id ∨ id' = st.nx) → (id' = id ∧ nx' = st.nx ∨ nx' = st.nx + 1) → (∀ j, j ≠ id → j ≠ st.nx → H' j = st.H j) → (id' ≠ id → H' id = st.H id) → K (.ref id' 0 (n + m) cap' 1) (st.withH H' nx')) :
    pAppend P st t t' (.ref id 0 n cap 1) y K := by
  refine ⟨e, he, he', 1, hsz, b, hb, [z], hz, rfl, m, ys, hs, hone, cs ++ rest.map .val, hH, by simp; omega, hbig.1, hbig.2, fun h => ⟨by simp; omega, ?_⟩, fun h cap' rest' h1 h2 h3 => ?_⟩
  · refine hk id cap (rest.drop m) (upd st.H id (some (spl (cs ++ rest.map .val) (0 + n * 1) ys))) st.nx ?_ ?_ (.inl rfl) (.inl ⟨rfl, rfl⟩) (fun j hj _ => upd_ne _ _ hj) (fun h => absurd rfl h)
    · rw [upd_self]
      have : spl (cs ++ rest.map .val) (0 + n * 1) ys = cs ++ ys ++ (rest.drop m).map .val := by
        unfold spl
        have e1 : (cs ++ List.map PV.val rest).take (0 + n * 1) = cs := by
          rw [show 0 + n * 1 = cs.length by omega, List.take_left]
        have e2 : (cs ++ List.map PV.val rest).drop (0 + n * 1 + ys.length) = (rest.drop m).map .val := by
          rw [show 0 + n * 1 + ys.length = cs.length + m by omega, List.drop_append]
          simp
        rw [e1, e2, List.append_assoc]
      rw [this]
    · simp; omega
  · refine hk st.nx cap' rest' (upd st.H st.nx (some ((((cs ++ rest.map PV.val).drop 0).take (n * 1) ++ ys) ++ rest'.map PV.val))) (st.nx + 1) ?_ (by omega) (.inr rfl) (.inr rfl) (fun j _ hj => upd_ne _ _ hj) (fun hne => upd_ne _ _ (Ne.symm hne))
    rw [upd_self]
    have : ((cs ++ List.map PV.val rest).drop 0).take (n * 1) = cs := by
      rw [List.drop_zero, show n * 1 = cs.length by omega, List.take_left]
    rw [this]


theorem append_ownX {st : PS} {t t' e : TypeId} {b id n cap m : Nat} {z : Value} {cs ys : List PV} {rest : List Value} {y : PV} {K : PV → PS → Prop} (hx : elemT P t = some e ∧ (elemT P t').isSome = true ∧ sizeT P e = some 1 ∧ bytesT P e = some b ∧ zeroT P e = some [z] ∧ srcP st.H 1 y = some (m, ys) ∧ ys.all oneP = true ∧ st.H id = some (cs ++ rest.map .val))
    (hn : cs.length = n) (hc : n + rest.length = cap) (hm : ys.length = m) (hbig : (n + m) * b ≤ 140737488355328 ∧ n + m ≤ 140737488355328)
    (hk : ∀ (id' cap' : Nat) (rest' : List Value) (H' : Nat → Option (List PV)) (nx' : Nat), H' id' = some ((cs ++ ys) ++ List.map PV.val rest') → n + m + rest'.length = cap' → (id' = id ∨ id' = st.nx) → (id' = id ∧ nx' = st.nx ∨ nx' = st.nx + 1) → (∀ j, j ≠ id → j ≠ st.nx → H' j = st.H j) → (id' ≠ id → H' id = st.H id) → K (.ref id' 0 (n + m) cap' 1) (st.withH H' nx')) :
    pAppend P st t t' (.ref id 0 n cap 1) y K :=
  append_own hx.1 hx.2.1 hx.2.2.1 hx.2.2.2.1 hx.2.2.2.2.1 hx.2.2.2.2.2.1 hx.2.2.2.2.2.2.1 hx.2.2.2.2.2.2.2 hn hc hm hbig hk


theorem append_nil {st : PS} {t t' e : TypeId} {b m : Nat} {z : Value} {ys : List PV} {y : PV} {K : PV → PS → Prop} (he : elemT P t = some e) (he' : (elemT P t').isSome = true) (hsz : sizeT P e = some 1) (hb : bytesT P e = some b)
    (hz : zeroT P e = some [z]) (hs : srcP st.H 1 y = some (m, ys)) (hone : ys.all oneP = true) (hbig : m * b ≤ 140737488355328 ∧ m ≤ 140737488355328)
    (h0 : m = 0 → K (.val (.slice none 0 0)) st) (hk : ∀ (cap' : Nat) (rest' : List Value), m + List.length rest' = cap' → 0 < m → K (.ref st.nx 0 m cap' 1) (st.withH (upd st.H st.nx (some (ys ++ List.map PV.val rest'))) (st.nx + 1))) :
    pAppend P st t t' (.val (.slice none 0 0)) y K := by
  refine ⟨e, he, he', 1, hsz, b, hb, [z], hz, rfl, m, ys, hs, hone, hbig.1, hbig.2, h0, fun h cap' rest' h1 h2 h3 => hk cap' rest' (by omega) h⟩

theorem mk_b (b : Value) : Mk1 (fun p => .tup [p, .val b]) := by
  refine ⟨fun k p => by simp [shift, shiftL], fun p h => by simp [closed, closedL, h], fun D H d p q h => ?_, fun p h => by simp [flat, flatL, h], fun {E E' p q v} hle h hr => ?_⟩
  · simp only [frz, List.mapM_cons, h, List.mapM_nil]
    have : frz D H d (.val b) = some (.val b) := frz_flat D H d _ rfl
    rw [this]; rfl
  · simp only [Rep] at hr ⊢
    obtain ⟨vs, rfl, hr⟩ := hr
    match vs, hr with
    | [u, x], hr =>
      simp only [RepL, Rep, and_true] at hr
      refine ⟨[u, x], rfl, ?_⟩
      simp only [RepL, Rep, and_true]
      exact ⟨h _ hr.1, hr.2⟩
    | [], hr => simp [RepL] at hr
    | [_], hr => simp [RepL] at hr
    | _ :: _ :: _ :: _, hr => simp [RepL] at hr

end Go.Proofs.Ytfjdfnlkobeehaa
end
