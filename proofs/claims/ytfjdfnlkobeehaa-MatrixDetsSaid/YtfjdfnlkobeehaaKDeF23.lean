/- Part 23 of the way to the statement: the walk and what it needs. -/
import Derived.Test.YtfjdfnlkobeehaaKDeF21
section
set_option maxRecDepth 100000
set_option linter.unusedVariables false
set_option linter.unusedSimpArgs false
namespace Go.Proofs.Ytfjdfnlkobeehaa

variable {P : Program}


structure Mk2 (mk : PV → PV → PV) : Prop where
  shift : ∀ k p q, shift k (mk p q) = mk (Ytfjdfnlkobeehaa.shift k p) (Ytfjdfnlkobeehaa.shift k q)
  closed : ∀ p q, closed p = true → closed q = true → closed (mk p q) = true
  flat : ∀ p q, flat p = true → flat q = true → flat (mk p q) = true
  frz : ∃ e, ∀ D H p q p' q', frz D H 1 p = some p' → frz D H 1 q = some q' → Ytfjdfnlkobeehaa.frz D H (e + 1) (mk p q) = some (mk p' q')
  rep : ∀ {E E' : En} {p q p' q' : PV} {v : Value}, E.le E' → (∀ u, Rep E p u → Rep E' p' u) → (∀ u, Rep E q u → Rep E' q' u) → Rep E (mk p q) v → Rep E' (mk p' q') v


theorem pCall_own2 {f : FuncId} {args args' : List PV} {st : PS} {K : PV → PS → Prop} {mk : PV → PV → PV} {cs ds : List PV} (hmk : Mk2 mk) (hv : args.map (view st.H) = args') (hf : flatL args' = true)
    (hcl : closedL cs = true) (hfl : flatL cs = true) (hcl2 : closedL ds = true) (hfl2 : flatL ds = true) (h : PO2 P f args' mk cs ds)
    (hk : ∀ (id cap : Nat) (rest : List Value) (id2 cap2 : Nat) (rest2 : List Value) (n : Nat), st.nx ≤ id → id < n → st.nx ≤ id2 → id2 < n → id ≠ id2 → cs.length + List.length rest = cap → ds.length + List.length rest2 = cap2 →
      K (mk (.ref id 0 cs.length cap 1) (.ref id2 0 ds.length cap2 1)) (st.withH (upd (upd st.H id (some (cs ++ rest.map .val))) id2 (some (ds ++ rest2.map .val))) n)) : pCall P f args st K := by
  refine ⟨_, _, GhA.refl _ _, .inl ⟨by rw [hv]; exact hf, ?_⟩⟩
  rw [hv]
  refine PCalls.mono h ?_
  rintro r H' n ⟨id, cap, rest, id2, cap2, rest2, rfl, hne, rfl, hcap, hcap2⟩
  refine ⟨fun _ => ⟨hmk.closed _ _ rfl rfl, fun i es hd => ?_⟩, fun hwf hwf' => ?_⟩
  · by_cases hi2 : i = id2
    · subst hi2; rw [upd_self] at hd; simp at hd; subst hd; exact closedL_app hcl2 (closedL_val _)
    · rw [upd_ne _ _ hi2] at hd
      by_cases hi : i = id
      · subst hi; rw [upd_self] at hd; simp at hd; subst hd; exact closedL_app hcl (closedL_val _)
      · rw [upd_ne _ _ hi] at hd; simp at hd
  · have hlt : id < n := by
      rcases Nat.lt_or_ge id n with h | h
      · exact h
      · have := hwf' id h; rw [upd_ne _ _ hne, upd_self] at this; simp at this
    have hlt2 : id2 < n := by
      rcases Nat.lt_or_ge id2 n with h | h
      · exact h
      · have := hwf' id2 h; rw [upd_self] at this; simp at this
    rw [hmk.shift, joinH_upd, joinH_upd, joinH_none hwf, shiftL_flat _ _ (flatL_app' hfl (flatL_val _)), shiftL_flat _ _ (flatL_app' hfl2 (flatL_val _))]
    exact ghK_intro (hk (id + st.nx) cap rest (id2 + st.nx) cap2 rest2 (st.nx + n) (by omega) (by omega) (by omega) (by omega) (by omega) hcap hcap2)


theorem PO2.tree {f : FuncId} {args : List PV} {mk : PV → PV → PV} {cs ds : List PV} (hmk : Mk2 mk) (hfl : flatL cs = true) (hfl2 : flatL ds = true) (h : PO2 P f args mk cs ds) : PT P f args (isV (mk (.sl cs.length cs) (.sl ds.length ds))) := by
  refine ⟨h.1, fun w vs ρ A0 h1 h2 h3 => (h.2 w vs ρ A0 h1 h2 h3).mono ?_⟩
  rintro e w' ⟨v, r, H', nx', ρ', he, ⟨id, cap, rest, id2, cap2, rest2, rfl, hne, rfl, hcap, hcap2⟩, hnx, hρ, hown, hrep, hframe, hsize, hsw⟩
  let H : Nat → Option (List PV) := upd (upd (fun _ => none) id (some (cs ++ rest.map .val))) id2 (some (ds ++ rest2.map .val))
  let c : Cx := { F := fun b => b < w.heap.size ∧ ¬ OwnB ρ (fun _ => none) (fun _ => none) b, w0 := w', A0 := A0, ρ0 := ρ', k := 0, n := 0, tb := [] }
  let st : PS := { sl := fun _ => .any, H := H, it := fun _ => none, nx := nx' }
  have hR : Rr c st { tmps := #[], defers := [] } w' ρ' :=
    ⟨hown, fun t => by simp [st, Rep], rfl, rfl, fun _ _ => rfl, Nat.le_refl _, Nat.zero_le _, fun _ _ => rfl, fun b hb => Nat.lt_of_lt_of_le hb.1 hsize, fun b hb => Nat.lt_of_lt_of_le (h1 b hb) hsize, Sw.refl _⟩
  have hH1 : H id = some (cs ++ rest.map .val) := by show upd _ id2 _ id = _; rw [upd_ne _ _ hne, upd_self]
  have hH2 : H id2 = some (ds ++ rest2.map .val) := upd_self _ _ _
  have key : ∀ (i cp : Nat) (xs : List PV) (rs : List Value), H i = some (xs ++ rs.map .val) → flatL xs = true → Ytfjdfnlkobeehaa.frz (fun _ => true) H 1 (.ref i 0 xs.length cp 1) = some (.sl xs.length xs) := by
    intro i cp xs rs hi hx
    simp only [frz_ref, if_true, hi, Option.bind_some]
    rw [if_pos (by simp)]
    simp only [List.drop_zero, Nat.mul_one, List.take_left]
    rw [frzL_flat (fun _ => true) H 0 hx]; rfl
  obtain ⟨e0, hfz⟩ := hmk.frz
  have hfz2 := hfz _ _ _ _ _ _ (key id cap cs rest hH1 hfl) (key id2 cap2 ds rest2 hH2 hfl2)
  have hd := hR.drop (H' := dropH (fun _ => true) st.H) (it' := fun _ => none) (fun i => .inr rfl) (fun i => .inl rfl)
  have hr := frz_sound hR (fun _ => true) _ _ _ v hfz2 hrep
  have hH : dropH (fun _ => true) st.H = fun _ => none := rfl
  rw [hH] at hd hr
  exact ⟨v, _, fun _ => none, nx', ρ', he, ⟨hmk.flat _ _ (by simpa [Ytfjdfnlkobeehaa.flat] using hfl) (by simpa [Ytfjdfnlkobeehaa.flat] using hfl2), rfl⟩, hnx, hρ, hd.1.own, hr, hframe, hsize, hsw⟩


theorem GhV.nilAt {st : PS} {f : PV → PV} (hf : ∀ {E E' : En} {v : Value} (n : Nat), E.le E' → (∀ u, Rep E (.val (.slice none 0 0)) u → Rep E' (.ref n 0 0 0 1) u) → Rep E (f (.val (.slice none 0 0))) v → Rep E' (f (.ref n 0 0 0 1)) v) :
    GhV (f (.val (.slice none 0 0))) st (f (.ref st.nx 0 0 0 1)) { st with H := upd st.H st.nx (some []), nx := st.nx + 1 } := by
  rintro c a w v ⟨ρ, h, hr⟩
  have hl : ∀ i, Live (upd st.H st.nx (some [])) st.it i → Live st.H st.it i := by
    rintro i (⟨cs, hc, hne⟩ | hi)
    · by_cases hx : i = st.nx
      · subst hx; rw [upd_self] at hc; simp at hc; exact absurd hc.symm (by simpa using hne)
      · rw [upd_ne _ _ hx] at hc; exact .inl ⟨cs, hc, hne⟩
    · exact .inr hi
  have hle : En.le (enOf c.A0 w ρ st.H st.it st.nx) (enOf c.A0 w ρ (upd st.H st.nx (some [])) st.it (st.nx + 1)) :=
    ⟨fun _ _ _ _ hv => hv, fun b _ _ hA _ hA' => hA (hA'.imp id fun ⟨i, hi, e⟩ => ⟨i, hl i hi, e⟩), Nat.le_succ _, fun _ _ => rfl⟩
  refine ⟨ρ, ⟨⟨fun i hi => ?_, fun i cs hc hne => ?_, fun i j hi hj he => h.own.inj i j (hl i hi) (hl j hj) he, fun i cs hc hne => ?_, h.own.itb, fun i hi => h.own.out i (hl i hi)⟩,
    fun u => Rep.mono hle _ _ (h.slots u), h.size, h.defers, h.frame, h.grow, Nat.le_succ_of_le h.ids, h.ρk, h.fF, h.fA, h.sw⟩, ?_⟩
  · by_cases hx : i = st.nx
    · exact hx ▸ Nat.lt_succ_self _
    · simp only [upd_ne _ _ hx] at hi; exact Nat.lt_succ_of_lt (h.own.bound i hi)
  · have hc : upd st.H st.nx (some []) i = some cs := hc
    by_cases hx : i = st.nx
    · subst hx; rw [upd_self] at hc; simp at hc; exact absurd hc.symm (by simpa using hne)
    · rw [upd_ne _ _ hx] at hc; exact h.own.excl i cs hc hne
  · have hc : upd st.H st.nx (some []) i = some cs := hc
    by_cases hx : i = st.nx
    · subst hx; rw [upd_self] at hc; simp at hc; exact absurd hc.symm (by simpa using hne)
    · rw [upd_ne _ _ hx] at hc
      obtain ⟨vs, e, hb, hr⟩ := h.own.blk i cs hc hne
      exact ⟨vs, e, hb, RepL.mono hle _ _ hr⟩
  · refine hf st.nx hle (fun u hu => ?_) hr
    simp only [Rep] at hu
    simp only [Rep]
    exact ⟨Nat.lt_succ_self _, Nat.le_refl _, .inr ⟨trivial, trivial, hu⟩⟩

theorem end_own2G {rs : List ResultVar} {st st1 : PS} {mk : PV → PV → PV} {cs ds : List PV} {id cap n id2 cap2 n2 : Nat} {rest rest2 : List Value} {ps : List PV} (h1 : resP P st rs = some ps)
    (hg : GhV (tupP ps) st (mk (.ref id 0 n cap 1) (.ref id2 0 n2 cap2 1)) st1) (hne : id ≠ id2) (hH : st1.H id = some (cs ++ rest.map .val)) (hH2 : st1.H id2 = some (ds ++ rest2.map .val)) (hn : cs.length = n) (hn2 : ds.length = n2)
    (hcap : cs.length + rest.length = cap) (hcap2 : ds.length + rest2.length = cap2) : endQ P rs (own2Q mk cs ds) .ret st := by
  subst hn hn2
  refine ⟨ps, h1, mk (.ref id 0 cs.length cap 1) (.ref id2 0 ds.length cap2 1), { st1 with H := upd (upd (fun _ => none) id (some (cs ++ rest.map .val))) id2 (some (ds ++ rest2.map .val)), it := fun _ => none }, hg.trans ?_, id, cap, rest, id2, cap2, rest2, rfl, hne, rfl, hcap, hcap2⟩
  rintro c a w v ⟨ρ, hR, hr⟩
  have hd := hR.drop (H' := upd (upd (fun _ => none) id (some (cs ++ rest.map .val))) id2 (some (ds ++ rest2.map .val))) (it' := fun _ => none) (fun i => by
    by_cases hi2 : i = id2
    · subst hi2; rw [upd_self]; exact .inl hH2.symm
    · rw [upd_ne _ _ hi2]
      by_cases hi : i = id
      · subst hi; rw [upd_self]; exact .inl hH.symm
      · rw [upd_ne _ _ hi]; exact .inr rfl) (fun i => .inr rfl)
  exact ⟨ρ, hd.1, Rep.mono hd.2 _ _ hr⟩
theorem GhV.refl (p : PV) (st : PS) : GhV p st p st := fun _ _ _ _ h => h
theorem end_own2 {rs : List ResultVar} {st : PS} {mk : PV → PV → PV} {cs ds : List PV} {id cap n id2 cap2 n2 : Nat} {rest rest2 : List Value} (h : obind (resP P st rs) fun ps => tupP ps = mk (.ref id 0 n cap 1) (.ref id2 0 n2 cap2 1))
    (hne : id ≠ id2) (hH : st.H id = some (cs ++ rest.map .val)) (hH2 : st.H id2 = some (ds ++ rest2.map .val)) (hn : cs.length = n) (hn2 : ds.length = n2)
    (hcap : cs.length + rest.length = cap) (hcap2 : ds.length + rest2.length = cap2) : endQ P rs (own2Q mk cs ds) .ret st := by
  obtain ⟨ps, h1, h2⟩ := h
  exact end_own2G h1 (by rw [h2]; exact GhV.refl _ _) hne hH hH2 hn hn2 hcap hcap2
theorem end_own2_nl {rs : List ResultVar} {st : PS} {mk : PV → PV → PV} (hmk : Mk2 mk) {ds : List PV} {id2 cap2 n2 : Nat} {rest2 : List Value} (h : obind (resP P st rs) fun ps => tupP ps = mk (.val (.slice none 0 0)) (.ref id2 0 n2 cap2 1))
    (hH2 : st.H id2 = some (ds ++ rest2.map .val)) (hn2 : ds.length = n2) (hcap2 : ds.length + rest2.length = cap2) (hid2 : id2 < st.nx) : endQ P rs (own2Q mk [] ds) .ret st := by
  obtain ⟨ps, h1, h2⟩ := h
  refine end_own2G (id := st.nx) (cap := 0) (n := 0) (rest := []) h1 (by rw [h2]; exact GhV.nilAt (f := fun p => mk p _) fun n hle hp hr => hmk.rep hle hp (fun u hu => Rep.mono hle _ _ hu) hr) (by omega) (upd_self _ _ _) ?_ rfl hn2 rfl hcap2
  show upd st.H st.nx _ id2 = _
  rw [upd_ne _ _ (by omega)]; exact hH2
theorem end_own2_nn {rs : List ResultVar} {st : PS} {mk : PV → PV → PV} (hmk : Mk2 mk) (h : obind (resP P st rs) fun ps => tupP ps = mk (.val (.slice none 0 0)) (.val (.slice none 0 0))) : endQ P rs (own2Q mk [] []) .ret st := by
  obtain ⟨ps, h1, h2⟩ := h
  refine end_own2G (st1 := { st with H := upd (upd st.H st.nx (some [])) (st.nx + 1) (some []), nx := st.nx + 1 + 1 }) (id := st.nx) (cap := 0) (n := 0) (rest := []) (id2 := st.nx + 1) (cap2 := 0) (n2 := 0) (rest2 := []) h1 ?_ (by omega) ?_ (upd_self _ _ _) rfl rfl rfl rfl
  · rw [h2]
    exact (GhV.nilAt (f := fun p => mk p _) fun n hle hp hr => hmk.rep hle hp (fun u hu => Rep.mono hle _ _ hu) hr).trans (GhV.nilAt (st := { st with H := upd st.H st.nx (some []), nx := st.nx + 1 }) (f := fun p => mk _ p) fun n hle hp hr => hmk.rep hle (fun u hu => Rep.mono hle _ _ hu) hp hr)
  · show upd (upd st.H st.nx (some [])) (st.nx + 1) (some []) st.nx = _
    rw [upd_ne _ _ (by omega)]; exact upd_self _ _ _


theorem rep_tup {E E' : En} {l l' : List PV} {v : Value} (h : ∀ vs, RepL E l vs → RepL E' l' vs) (hr : Rep E (.tup l) v) : Rep E' (.tup l') v := by
  simp only [Rep] at hr ⊢
  obtain ⟨vs, e, hr⟩ := hr
  exact ⟨vs, e, h vs hr⟩
theorem repL_cons {E E' : En} {p p' : PV} {l l' : List PV} (h : ∀ u, Rep E p u → Rep E' p' u) (hl : ∀ vs, RepL E l vs → RepL E' l' vs) : ∀ vs, RepL E (p :: l) vs → RepL E' (p' :: l') vs := by
  intro vs hr
  cases vs with
  | nil => simp [RepL] at hr
  | cons v vs => simp only [RepL] at hr ⊢; exact ⟨h v hr.1, hl vs hr.2⟩
theorem repL_nil {E E' : En} : ∀ vs, RepL E [] vs → RepL E' [] vs := fun vs hr => by
  cases vs with
  | nil => trivial
  | cons _ _ => simp [RepL] at hr

theorem mk_ll : Mk2 (fun p q => .tup [p, q]) :=
  ⟨fun k p q => by simp [shift, shiftL], fun p q h h' => by simp [closed, closedL, h, h'], fun p q h h' => by simp [flat, flatL, h, h'], ⟨1, fun D H p q p' q' h h' => by simp only [frz_tup, frz_agg, frz_val, List.mapM_cons, List.mapM_nil, h, h']; rfl⟩, fun {E E' p q p' q' v} hle h h' hr => rep_tup (repL_cons h (repL_cons h' repL_nil)) hr⟩

theorem mk_llv (b : Value) : Mk2 (fun p q => .tup [p, q, .val b]) :=
  ⟨fun k p q => by simp [shift, shiftL], fun p q h h' => by simp [closed, closedL, h, h'], fun p q h h' => by simp [flat, flatL, h, h'], ⟨1, fun D H p q p' q' h h' => by simp only [frz_tup, frz_agg, frz_val, List.mapM_cons, List.mapM_nil, h, h']; rfl⟩, fun {E E' p q p' q' v} hle h h' hr => rep_tup (repL_cons h (repL_cons h' (repL_cons (fun u hu => Rep.mono hle _ _ hu) repL_nil))) hr⟩

end Go.Proofs.Ytfjdfnlkobeehaa
end
