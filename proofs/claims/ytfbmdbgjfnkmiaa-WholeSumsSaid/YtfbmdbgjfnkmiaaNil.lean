/- nil, told as an empty list; ends of several parts. Program independent. -/
import Derived.Test.YtfbmdbgjfnkmiaaRules5
set_option linter.unusedVariables false
set_option linter.unusedSimpArgs false
namespace Go.Proofs.Ytfbmdbgjfnkmiaa

variable {P : Program}

/-- nil is told as an empty list. -/
def nn1 : PV → PV
  | .val (.slice none 0 0) => .sl 0 []
  | p => p
def nn : PV → PV
  | .tup cs => .tup (cs.map nn1)
  | p => nn1 p
theorem nn1_rep {E : En} {p : PV} {v : Value} (h : Rep E p v) : Rep E (nn1 p) v := by
  unfold nn1
  split
  · simp only [Rep] at h ⊢
    exact .inl ⟨trivial, trivial, h⟩
  · exact h
theorem nnL_rep {E : En} : ∀ {cs : List PV} {vs : List Value}, RepL E cs vs → RepL E (cs.map nn1) vs
  | [], [], _ => by simp [RepL]
  | c :: cs, v :: vs, h => by
    simp only [RepL, List.map_cons] at h ⊢
    exact ⟨nn1_rep h.1, nnL_rep h.2⟩
  | [], _ :: _, h => by simp [RepL] at h
  | _ :: _, [], h => by simp [RepL] at h
theorem nn_rep {E : En} {p : PV} {v : Value} (h : Rep E p v) : Rep E (nn p) v := by
  unfold nn
  split
  · simp only [Rep] at h ⊢
    obtain ⟨vs, e, h⟩ := h
    exact ⟨vs, e, nnL_rep h⟩
  · exact nn1_rep h
theorem nn1_flat {p : PV} (h : flat p = true) : flat (nn1 p) = true := by
  unfold nn1; split
  · rfl
  · exact h
theorem nnL_flat : ∀ {cs : List PV}, flatL cs = true → flatL (cs.map nn1) = true
  | [], _ => rfl
  | c :: cs, h => by
    simp only [flatL, Bool.and_eq_true, List.map_cons] at h ⊢
    exact ⟨nn1_flat h.1, nnL_flat h.2⟩
theorem nn_flat {p : PV} (h : flat p = true) : flat (nn p) = true := by
  unfold nn; split
  · exact nnL_flat (by simpa [flat] using h)
  · exact nn1_flat h
theorem GhV.nn {st : PS} (p : PV) : GhV p st (nn p) st := by
  rintro c a w v ⟨ρ, h, hr⟩
  exact ⟨ρ, h, nn_rep hr⟩
theorem GhV.trans {p q r : PV} {s t u : PS} (h : GhV p s q t) (h' : GhV q t r u) : GhV p s r u := fun c a w v hR => h' c a w v (h c a w v hR)

/-- The end, where all that is our own is given up, and nil is told as an empty list. -/
theorem end_treeN {rs : List ResultVar} {Q : PV → Prop} {st : PS} (d : Nat) (h : obind (resP P st rs) fun ps => obind (Ytfbmdbgjfnkmiaa.frz (fun _ => true) st.H d (tupP ps)) fun q => flat q = true ∧ Q (nn q)) :
    endQ P rs (treeQ Q) .ret st := by
  obtain ⟨ps, h1, q, h2, h3, h4⟩ := h
  exact ⟨ps, h1, nn q, _, (GhV.frz _ d h2).trans (GhV.nn q), nn_flat h3, h4⟩

theorem dropH_all (H : Nat → Option (List PV)) : dropH (fun _ => true) H = fun _ => none := rfl
attribute [go_sem] dropH_all
theorem bne_f (a : Bool) : (a != false) = a := by cases a <;> rfl
theorem bne_t (a : Bool) : (a != true) = !a := by cases a <;> rfl
theorem beq_f (a : Bool) : (a == false) = !a := by cases a <;> rfl
theorem beq_t (a : Bool) : (a == true) = a := by cases a <;> rfl
attribute [go_sem] bne_f bne_t beq_f beq_t beq_self_eq_true
/-- Our own array, as a call reads it. -/
def viewO (o : Option (List PV)) (p : PV) (off n sz : Nat) : PV := match o with
  | some cs => if off + n * sz ≤ cs.length then .sl n ((cs.drop off).take (n * sz)) else p
  | none => p
theorem view_ref (H : Nat → Option (List PV)) (id off n cap sz : Nat) : view H (.ref id off n cap sz) = viewO (H id) (.ref id off n cap sz) off n sz := rfl
theorem view1_ref (H : Nat → Option (List PV)) (id off n cap sz : Nat) : view1 H (.ref id off n cap sz) = viewO (H id) (.ref id off n cap sz) off n sz := rfl
theorem viewO_some (cs : List PV) (p : PV) (off n sz : Nat) : viewO (some cs) p off n sz = if off + n * sz ≤ cs.length then .sl n ((cs.drop off).take (n * sz)) else p := rfl
attribute [go_sem] view_ref view1_ref viewO_some
/-- What is left of a slot when all our own memory is given up. -/
def frzS (H : Nat → Option (List PV)) (p : PV) : PV := (Ytfbmdbgjfnkmiaa.frz (fun _ => true) H 1 p).getD .any
def PS.frzAll (st : PS) : PS := { st with sl := fun t => frzS st.H (st.sl t), H := fun _ => none }
theorem frzAll_sl (st : PS) (t : Nat) : st.frzAll.sl t = frzS st.H (st.sl t) := rfl
theorem frzAll_H (st : PS) : st.frzAll.H = fun _ => none := rfl
theorem frzAll_nx (st : PS) : st.frzAll.nx = st.nx := rfl
theorem frzAll_it (st : PS) : st.frzAll.it = st.it := rfl
theorem frzS_def (H : Nat → Option (List PV)) (p : PV) : frzS H p = (Ytfbmdbgjfnkmiaa.frz (fun _ => true) H 1 p).getD .any := rfl
attribute [go_sem] frzAll_sl frzAll_H frzAll_nx frzAll_it frzS_def Option.getD_some
/-- A call to which all our own memory is given up: it is only read from then on. -/
theorem pCall_frzAll {f : FuncId} {args args' args2 : List PV} {st : PS} {K : PV → PS → Prop} {Q : PV → Prop} (hq : args.mapM (Ytfbmdbgjfnkmiaa.frz (fun _ => true) st.H 1) = some args') (hfl : flatL args' = true) (hv : args'.map (view (fun _ => none)) = args2) (hf : flatL args2 = true)
    (h : PT P f args2 Q) (hk : ∀ r n, flat r = true → Q r → st.nx ≤ n → K r (st.frzAll.withH (fun _ => none) n)) : pCall P f args st K := by
  have h1 : pCall P f args' st.frzAll K := pCall_tree hv hfl hf h hk
  obtain ⟨args1, st1, hg, hc⟩ := h1
  refine ⟨args1, st1, fun c a w vs hR => hg c a w vs ?_, hc⟩
  obtain ⟨ρ, hR, hr⟩ := hR
  have h' := (hR.drop (H' := dropH (fun _ => true) st.H) (it' := st.it) (fun i => by unfold dropH; split; exact .inr rfl; exact .inl rfl) (fun i => .inl rfl)).1
  refine ⟨ρ, ⟨h'.own, fun u => ?_, h'.size, h'.defers, h'.frame, h'.grow, h'.ids, h'.ρk, h'.fF, h'.fA, h'.sw⟩, frzL_sound hR (fun _ => true) 1 _ _ _ hq hr⟩
  show Rep _ (frzS st.H (st.sl u)) _
  unfold frzS
  cases hz : Ytfbmdbgjfnkmiaa.frz (fun _ => true) st.H 1 (st.sl u) with
  | none => simp [Rep]
  | some q => exact frz_sound hR (fun _ => true) 1 _ q _ hz (hR.slots u)
theorem nn_agg (cs : List PV) : nn (.agg cs) = .agg cs := rfl
attribute [go_sem] nn_agg
/-- All our own memory is given up. -/
theorem Gh.frzAll (st : PS) : Gh st st.frzAll := by
  rintro c a w ⟨ρ, hR⟩
  have h' := (hR.drop (H' := dropH (fun _ => true) st.H) (it' := st.it) (fun i => by unfold dropH; split; exact .inr rfl; exact .inl rfl) (fun i => .inl rfl)).1
  refine ⟨ρ, h'.own, fun u => ?_, h'.size, h'.defers, h'.frame, h'.grow, h'.ids, h'.ρk, h'.fF, h'.fA, h'.sw⟩
  show Rep _ (frzS st.H (st.sl u)) _
  unfold frzS
  cases hz : Ytfbmdbgjfnkmiaa.frz (fun _ => true) st.H 1 (st.sl u) with
  | none => simp [Rep]
  | some q => exact frz_sound hR (fun _ => true) 1 _ q _ hz (hR.slots u)
theorem nn_tup (cs : List PV) : nn (.tup cs) = .tup (cs.map nn1) := rfl
theorem nn_nil : nn (.val (.slice none 0 0)) = .sl 0 [] := rfl
theorem nn_sl (n : Nat) (cs : List PV) : nn (.sl n cs) = .sl n cs := rfl
theorem nn_int (k : IntKind) (z : Int) : nn (.val (.int k z)) = .val (.int k z) := rfl
theorem nn1_nil : nn1 (.val (.slice none 0 0)) = .sl 0 [] := rfl
theorem nn1_sl (n : Nat) (cs : List PV) : nn1 (.sl n cs) = .sl n cs := rfl
theorem nn1_int (k : IntKind) (z : Int) : nn1 (.val (.int k z)) = .val (.int k z) := rfl
theorem nn1_bool (b : Bool) : nn1 (.val (.bool b)) = .val (.bool b) := rfl
theorem nn1_str (s : ByteArray) : nn1 (.val (.string s)) = .val (.string s) := rfl
theorem nn1_agg (cs : List PV) : nn1 (.agg cs) = .agg cs := rfl
theorem mapMo_nil {α β : Type} (f : α → Option β) : [].mapM f = some [] := rfl
theorem mapMo_cons {α β : Type} (f : α → Option β) (x : α) (l : List α) : (x :: l).mapM f = (f x).bind fun y => (l.mapM f).map (y :: ·) := by
  rw [List.mapM_cons]; cases f x <;> simp; cases l.mapM f <;> rfl
attribute [go_sem] nn_tup nn_nil nn_sl nn_int nn1_nil nn1_sl nn1_int nn1_bool nn1_str nn1_agg mapMo_nil mapMo_cons
end Go.Proofs.Ytfbmdbgjfnkmiaa
