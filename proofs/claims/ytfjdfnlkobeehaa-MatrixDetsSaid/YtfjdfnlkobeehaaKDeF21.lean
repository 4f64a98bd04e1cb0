/- Part 21 of the way to the statement: the walk and what it needs. -/
import Derived.Test.YtfjdfnlkobeehaaKDeF2
import Derived.Test.YtfjdfnlkobeehaaKDeF20
section
set_option linter.unusedVariables false
set_option linter.unusedSimpArgs false
namespace Go.Proofs.Ytfjdfnlkobeehaa

theorem ofInt_nat {w a : Nat} (h : a < 2 ^ w) : (BitVec.ofInt w (a : Int)).toNat = a := by
  rw [BitVec.toNat_ofInt]
  have : ((a : Int) % ((2 ^ w : Nat) : Int)) = ((a % 2 ^ w : Nat) : Int) := by simp
  rw [this, Nat.mod_eq_of_lt h]; rfl

theorem wrap_u64_nat {a : Nat} (h : a < 18446744073709551616) : IntKind.u64.wrap (a : Int) = a := by
  simp [IntKind.wrap, IntKind.bits, IntKind.signed]; omega
theorem wrap_u32_nat {a : Nat} (h : a < 4294967296) : IntKind.u32.wrap (a : Int) = a := by
  simp [IntKind.wrap, IntKind.bits, IntKind.signed]; omega

theorem or_u64 {a b : Nat} (h : a < 18446744073709551616 ∧ b < 18446744073709551616) : bitsV .or .u64 (a : Int) (b : Int) = some (.int .u64 ((a ||| b : Nat) : Int)) := by
  have h1 : (BitVec.ofInt 64 (a : Int) ||| BitVec.ofInt 64 (b : Int)).toNat = a ||| b := by
    rw [BitVec.toNat_or, ofInt_nat h.1, ofInt_nat h.2]
  have h2 : a ||| b < 18446744073709551616 := Nat.or_lt_two_pow (n := 64) h.1 h.2
  show some (Value.int .u64 (IntKind.u64.wrap ((BitVec.ofInt 64 (a : Int) ||| BitVec.ofInt 64 (b : Int)).toNat))) = _
  rw [h1, wrap_u64_nat h2]
theorem or_add {c s x : Nat} (h : c < 2 ^ s) : c ||| x * 2 ^ s = c + x * 2 ^ s := by
  have := Nat.two_pow_add_eq_or_of_lt h x
  rw [Nat.or_comm, Nat.mul_comm x, ← this, Nat.add_comm]
theorem or_add' {c s x : Nat} (h : c < 2 ^ s) : x * 2 ^ s ||| c = x * 2 ^ s + c := by
  rw [Nat.or_comm, or_add h, Nat.add_comm]
theorem or_add32 {x y : Nat} (h : x < 4294967296) : x ||| y * 4294967296 = x + y * 4294967296 := or_add (s := 32) h
theorem or_add32' {x y : Nat} (h : x < 4294967296) : y * 4294967296 ||| x = y * 4294967296 + x := or_add' (s := 32) h
attribute [go_sem] or_add32 or_add32'
theorem xor_u32 {a : Nat} (h : a < 4294967296) : unP .xor (.val (.int .u32 (a : Int))) = some (.val (.int .u32 ((4294967295 - a : Nat) : Int))) := by
  have h1 : (BitVec.ofInt 32 (IntKind.u32.max) ^^^ BitVec.ofInt 32 (a : Int)).toNat = 4294967295 - a := by
    have e : BitVec.ofInt 32 IntKind.u32.max = BitVec.allOnes 32 := by decide
    rw [e, BitVec.allOnes_xor, BitVec.toNat_not, ofInt_nat h]
  have : unV .xor (.int .u32 (a : Int)) = some (.int .u32 ((4294967295 - a : Nat) : Int)) := by
    show some (Value.int .u32 (IntKind.u32.wrap ((BitVec.ofInt 32 IntKind.u32.max ^^^ BitVec.ofInt 32 (a : Int)).toNat))) = _
    rw [h1, wrap_u32_nat (by omega)]
  simp only [unP, this]; rfl
theorem cast_pow2 (s : Nat) : (2 : Int) ^ s = ((2 ^ s : Nat) : Int) := by simp
attribute [go_sem] or_u64 xor_u32 cast_pow2

end Go.Proofs.Ytfjdfnlkobeehaa

namespace Go.Proofs.Ytfjdfnlkobeehaa

variable {P : Program}


def nn1 : PV → PV
  | .val (.slice none 0 0) => .sl 0 []
  | p => p
def nn : PV → PV
  | .tup cs => .tup (cs.map nn1)
  | p => nn1 p
theorem nn1_rep {E : En} {p : PV} {v : Value} (h : Rep E p v) : Rep E (nn1 p) v := by
  unfold nn1
  split
  · simp only [Rep] at h ⊢
    exact .inl ⟨trivial, trivial, none, h⟩
  · exact h
theorem nnL_rep {E : En} : ∀ {cs : List PV} {vs : List Value}, RepL E cs vs → RepL E (cs.map nn1) vs
  | [], [], _ => by simp [RepL]
  | c :: cs, v :: vs, h => by
    simp only [RepL, List.map_cons] at h ⊢
    exact ⟨nn1_rep h.1, nnL_rep h.2⟩
  | [], _ :: _, h => by simp [RepL] at h
  | _ :: _, [], h => by simp [RepL] at h
theorem nn_rep {E : En} {p : PV} {v : Value} (h : Rep E p v) : Rep E (nn p) v := by
  unfold nn
  split
  · simp only [Rep] at h ⊢
    obtain ⟨vs, e, h⟩ := h
    exact ⟨vs, e, nnL_rep h⟩
  · exact nn1_rep h
theorem nn1_flat {p : PV} (h : flat p = true) : flat (nn1 p) = true := by
  unfold nn1; split
  · rfl
  · exact h
theorem nnL_flat : ∀ {cs : List PV}, flatL cs = true → flatL (cs.map nn1) = true
  | [], _ => rfl
  | c :: cs, h => by
    simp only [flatL, Bool.and_eq_true, List.map_cons] at h ⊢
    exact ⟨nn1_flat h.1, nnL_flat h.2⟩
theorem nn_flat {p : PV} (h : flat p = true) : flat (nn p) = true := by
  unfold nn; split
  · exact nnL_flat (by simpa [flat] using h)
  · exact nn1_flat h
theorem GhV.nn {st : PS} (p : PV) : GhV p st (nn p) st := by
  rintro c a w v ⟨ρ, h, hr⟩
  exact ⟨ρ, h, nn_rep hr⟩
theorem GhV.trans {p q r : PV} {s t u : PS} (h : GhV p s q t) (h' : GhV q t r u) : GhV p s r u := fun c a w v hR => h' c a w v (h c a w v hR)


theorem end_treeN {rs : List ResultVar} {Q : PV → Prop} {st : PS} (d : Nat) (h : obind (resP P st rs) fun ps => obind (Ytfjdfnlkobeehaa.frz (fun _ => true) st.H d (tupP ps)) fun q => flat q = true ∧ Q (nn q)) :
    endQ P rs (treeQ Q) .ret st := by
  obtain ⟨ps, h1, q, h2, h3, h4⟩ := h
  exact ⟨ps, h1, nn q, _, (GhV.frz _ d h2).trans (GhV.nn q), nn_flat h3, h4⟩

theorem dropH_all (H : Nat → Option (List PV)) : dropH (fun _ => true) H = fun _ => none := rfl
attribute [go_sem] dropH_all
theorem bne_f (a : Bool) : (a != false) = a := by cases a <;> rfl
theorem bne_t (a : Bool) : (a != true) = !a := by cases a <;> rfl
theorem beq_f (a : Bool) : (a == false) = !a := by cases a <;> rfl
theorem beq_t (a : Bool) : (a == true) = a := by cases a <;> rfl
attribute [go_sem] bne_f bne_t beq_f beq_t beq_self_eq_true

def viewO (o : Option (List PV)) (p : PV) (off n sz : Nat) : PV := match o with
  | some cs => if off + n * sz ≤ cs.length then .sl n ((cs.drop off).take (n * sz)) else p
  | none => p
theorem view_ref (H : Nat → Option (List PV)) (id off n cap sz : Nat) : view H (.ref id off n cap sz) = viewO (H id) (.ref id off n cap sz) off n sz := rfl
theorem view1_ref (H : Nat → Option (List PV)) (id off n cap sz : Nat) : view1 H (.ref id off n cap sz) = viewO (H id) (.ref id off n cap sz) off n sz := rfl
theorem viewO_some (cs : List PV) (p : PV) (off n sz : Nat) : viewO (some cs) p off n sz = if off + n * sz ≤ cs.length then .sl n ((cs.drop off).take (n * sz)) else p := rfl
attribute [go_sem] view_ref view1_ref viewO_some

def frzS (H : Nat → Option (List PV)) (p : PV) : PV := (Ytfjdfnlkobeehaa.frz (fun _ => true) H 1 p).getD .any
def PS.frzAll (st : PS) : PS := { st with sl := fun t => frzS st.H (st.sl t), H := fun _ => none }
theorem frzAll_sl (st : PS) (t : Nat) : st.frzAll.sl t = frzS st.H (st.sl t) := rfl
theorem frzAll_H (st : PS) : st.frzAll.H = fun _ => none := rfl
theorem frzAll_nx (st : PS) : st.frzAll.nx = st.nx := rfl
theorem frzAll_it (st : PS) : st.frzAll.it = st.it := rfl
theorem frzS_def (H : Nat → Option (List PV)) (p : PV) : frzS H p = (Ytfjdfnlkobeehaa.frz (fun _ => true) H 1 p).getD .any := rfl
attribute [go_sem] frzAll_sl frzAll_H frzAll_nx frzAll_it frzS_def Option.getD_some

theorem pCall_frzAll {f : FuncId} {args args' args2 : List PV} {st : PS} {K : PV → PS → Prop} {Q : PV → Prop} (hq : args.mapM (Ytfjdfnlkobeehaa.frz (fun _ => true) st.H 1) = some args') (hfl : flatL args' = true) (hv : args'.map (view (fun _ => none)) = args2) (hf : flatL args2 = true)
    (h : PT P f args2 Q) (hk : ∀ r n, flat r = true → Q r → st.nx ≤ n → K r (st.frzAll.withH (fun _ => none) n)) : pCall P f args st K := by
  have h1 : pCall P f args' st.frzAll K := pCall_tree hv hfl hf h hk
  obtain ⟨args1, st1, hg, hc⟩ := h1
  refine ⟨args1, st1, fun c a w vs hR => hg c a w vs ?_, hc⟩
  obtain ⟨ρ, hR, hr⟩ := hR
  have h' := (hR.drop (H' := dropH (fun _ => true) st.H) (it' := st.it) (fun i => by unfold dropH; split; exact .inr rfl; exact .inl rfl) (fun i => .inl rfl)).1
  refine ⟨ρ, ⟨h'.own, fun u => ?_, h'.size, h'.defers, h'.frame, h'.grow, h'.ids, h'.ρk, h'.fF, h'.fA, h'.sw⟩, frzL_sound hR (fun _ => true) 1 _ _ _ hq hr⟩
  show Rep _ (frzS st.H (st.sl u)) _
  unfold frzS
  cases hz : Ytfjdfnlkobeehaa.frz (fun _ => true) st.H 1 (st.sl u) with
  | none => simp [Rep]
  | some q => exact frz_sound hR (fun _ => true) 1 _ q _ hz (hR.slots u)
theorem nn_agg (cs : List PV) : nn (.agg cs) = .agg cs := rfl
attribute [go_sem] nn_agg

theorem Gh.frzAll (st : PS) : Gh st st.frzAll := by
  rintro c a w ⟨ρ, hR⟩
  have h' := (hR.drop (H' := dropH (fun _ => true) st.H) (it' := st.it) (fun i => by unfold dropH; split; exact .inr rfl; exact .inl rfl) (fun i => .inl rfl)).1
  refine ⟨ρ, h'.own, fun u => ?_, h'.size, h'.defers, h'.frame, h'.grow, h'.ids, h'.ρk, h'.fF, h'.fA, h'.sw⟩
  show Rep _ (frzS st.H (st.sl u)) _
  unfold frzS
  cases hz : Ytfjdfnlkobeehaa.frz (fun _ => true) st.H 1 (st.sl u) with
  | none => simp [Rep]
  | some q => exact frz_sound hR (fun _ => true) 1 _ q _ hz (hR.slots u)
theorem nn_tup (cs : List PV) : nn (.tup cs) = .tup (cs.map nn1) := rfl
theorem nn_nil : nn (.val (.slice none 0 0)) = .sl 0 [] := rfl
theorem nn_sl (n : Nat) (cs : List PV) : nn (.sl n cs) = .sl n cs := rfl
theorem nn_int (k : IntKind) (z : Int) : nn (.val (.int k z)) = .val (.int k z) := rfl
theorem nn1_nil : nn1 (.val (.slice none 0 0)) = .sl 0 [] := rfl
theorem nn1_sl (n : Nat) (cs : List PV) : nn1 (.sl n cs) = .sl n cs := rfl
theorem nn1_int (k : IntKind) (z : Int) : nn1 (.val (.int k z)) = .val (.int k z) := rfl
theorem nn1_bool (b : Bool) : nn1 (.val (.bool b)) = .val (.bool b) := rfl
theorem nn1_str (s : ByteArray) : nn1 (.val (.string s)) = .val (.string s) := rfl
theorem nn1_agg (cs : List PV) : nn1 (.agg cs) = .agg cs := rfl
theorem mapMo_nil {α β : Type} (f : α → Option β) : [].mapM f = some [] := rfl
theorem mapMo_cons {α β : Type} (f : α → Option β) (x : α) (l : List α) : (x :: l).mapM f = (f x).bind fun y => (l.mapM f).map (y :: ·) := by
  rw [List.mapM_cons]; cases f x <;> simp; cases l.mapM f <;> rfl
attribute [go_sem] nn_tup nn_nil nn_sl nn_int nn1_nil nn1_sl nn1_int nn1_bool nn1_str nn1_agg mapMo_nil mapMo_cons
end Go.Proofs.Ytfjdfnlkobeehaa

namespace Go.Proofs.Ytfjdfnlkobeehaa

variable {P : Program}

theorem mk_w (b : Value) : Mk1 (fun p => .agg [.val b, p]) := by
  refine ⟨fun k p => by simp [shift, shiftL], fun p h => by simp [closed, closedL, h], fun D H d p q h => ?_, fun p h => by simp [flat, flatL, h], fun {E E' p q v} hle h hr => ?_⟩
  · simp only [frz, List.mapM_cons, h, List.mapM_nil]
    have : frz D H d (.val b) = some (.val b) := frz_flat D H d _ rfl
    rw [this]; rfl
  · simp only [Rep] at hr ⊢
    obtain ⟨vs, rfl, hr⟩ := hr
    match vs, hr with
    | [u, x], hr =>
      simp only [RepL, Rep, and_true] at hr
      refine ⟨[u, x], rfl, ?_⟩
      simp only [RepL, Rep, and_true]
      exact ⟨hr.1, h _ hr.2⟩
    | [], hr => simp [RepL] at hr
    | [_], hr => simp [RepL] at hr
    | _ :: _ :: _ :: _, hr => simp [RepL] at hr


def nn2 : PV → PV
  | .agg cs => .agg (cs.map nn1)
  | p => nn1 p
def nn3 : PV → PV
  | .tup cs => .tup (cs.map nn2)
  | p => nn2 p
theorem nn2_rep {E : En} {p : PV} {v : Value} (h : Rep E p v) : Rep E (nn2 p) v := by
  unfold nn2
  split
  · simp only [Rep] at h ⊢
    obtain ⟨vs, e, h⟩ := h
    exact ⟨vs, e, nnL_rep h⟩
  · exact nn1_rep h
theorem nn2L_rep {E : En} : ∀ {cs : List PV} {vs : List Value}, RepL E cs vs → RepL E (cs.map nn2) vs
  | [], [], _ => by simp [RepL]
  | c :: cs, v :: vs, h => by
    simp only [RepL, List.map_cons] at h ⊢
    exact ⟨nn2_rep h.1, nn2L_rep h.2⟩
  | [], _ :: _, h => by simp [RepL] at h
  | _ :: _, [], h => by simp [RepL] at h
theorem nn3_rep {E : En} {p : PV} {v : Value} (h : Rep E p v) : Rep E (nn3 p) v := by
  unfold nn3
  split
  · simp only [Rep] at h ⊢
    obtain ⟨vs, e, h⟩ := h
    exact ⟨vs, e, nn2L_rep h⟩
  · exact nn2_rep h
theorem nn2_flat {p : PV} (h : flat p = true) : flat (nn2 p) = true := by
  unfold nn2; split
  · exact nnL_flat (by simpa [flat] using h)
  · exact nn1_flat h
theorem nn2L_flat : ∀ {cs : List PV}, flatL cs = true → flatL (cs.map nn2) = true
  | [], _ => rfl
  | c :: cs, h => by
    simp only [flatL, Bool.and_eq_true, List.map_cons] at h ⊢
    exact ⟨nn2_flat h.1, nn2L_flat h.2⟩
theorem nn3_flat {p : PV} (h : flat p = true) : flat (nn3 p) = true := by
  unfold nn3; split
  · exact nn2L_flat (by simpa [flat] using h)
  · exact nn2_flat h
theorem GhV.nn3 {st : PS} (p : PV) : GhV p st (nn3 p) st := by
  rintro c a w v ⟨ρ, h, hr⟩
  exact ⟨ρ, h, nn3_rep hr⟩

theorem end_treeM {rs : List ResultVar} {Q : PV → Prop} {st : PS} (d : Nat) (h : obind (resP P st rs) fun ps => obind (Ytfjdfnlkobeehaa.frz (fun _ => true) st.H d (tupP ps)) fun q => flat q = true ∧ Q (nn3 q)) :
    endQ P rs (treeQ Q) .ret st := by
  obtain ⟨ps, h1, q, h2, h3, h4⟩ := h
  exact ⟨ps, h1, nn3 q, _, (GhV.frz _ d h2).trans (GhV.nn3 q), nn3_flat h3, h4⟩
theorem nn3_agg (cs : List PV) : nn3 (.agg cs) = .agg (cs.map nn1) := rfl
theorem nn3_tup (cs : List PV) : nn3 (.tup cs) = .tup (cs.map nn2) := rfl
theorem nn2_agg (cs : List PV) : nn2 (.agg cs) = .agg (cs.map nn1) := rfl
theorem nn2_int (k : IntKind) (z : Int) : nn2 (.val (.int k z)) = .val (.int k z) := rfl
theorem nn2_bool (b : Bool) : nn2 (.val (.bool b)) = .val (.bool b) := rfl
theorem nn2_sl (n : Nat) (cs : List PV) : nn2 (.sl n cs) = .sl n cs := rfl
theorem nn2_nil : nn2 (.val (.slice none 0 0)) = .sl 0 [] := rfl
attribute [go_sem] nn3_agg nn3_tup nn2_agg nn2_int nn2_bool nn2_sl nn2_nil

def PS.nns (st : PS) : PS := { st with sl := fun t => nn2 (st.sl t) }
theorem nns_sl (st : PS) (t : Nat) : st.nns.sl t = nn2 (st.sl t) := rfl
theorem nns_H (st : PS) : st.nns.H = st.H := rfl
theorem nns_nx (st : PS) : st.nns.nx = st.nx := rfl
theorem nns_it (st : PS) : st.nns.it = st.it := rfl
attribute [go_sem] nns_sl nns_H nns_nx nns_it
def memR (x : PV) (H : Nat → Option (List PV)) (r : PV) (H' : Nat → Option (List PV)) (nx' : Nat) : Prop := r = x ∧ H' = H

theorem end_mem {rs : List ResultVar} {st : PS} {x : PV} {H : Nat → Option (List PV)} (h : obind (resP P st rs) fun ps => tupP ps = x) (hH : ∀ i, H i = st.H i ∨ H i = none) : endQ P rs (memR x H) .ret st := by
  obtain ⟨ps, h1, h2⟩ := h
  refine ⟨ps, h1, x, { st with H := H, it := fun _ => none }, ?_, rfl, rfl⟩
  rw [h2]
  rintro c a w v ⟨ρ, hR, hr⟩
  have hd := hR.drop (H' := H) (it' := fun _ => none) hH (fun i => .inr rfl)
  exact ⟨ρ, hd.1, Rep.mono hd.2 _ _ hr⟩
theorem upd_less {α : Type} {H : Nat → Option α} {nx : Nat} {x : Option α} (h : H nx = none) (i : Nat) : H i = upd H nx x i ∨ H i = none := by
  by_cases hi : i = nx
  · subst hi; exact .inr h
  · exact .inl (by rw [upd_ne _ _ hi])
theorem take_two {α : Type} (a b : α) : [a, b].take 2 = [a, b] := rfl
theorem take_one {α : Type} (a b : α) : [a, b].take 1 = [a] := rfl
theorem drop_one {α : Type} (a b : α) : [a, b].drop 1 = [b] := rfl
theorem spl_two {α : Type} (a b x y : α) : spl [a, b] 0 [x, y] = [x, y] := rfl
attribute [go_sem] take_two take_one drop_one spl_two

def frzSD (d : Nat) (H : Nat → Option (List PV)) (p : PV) : PV := (Ytfjdfnlkobeehaa.frz (fun _ => true) H d p).getD .any
def PS.frzAllD (st : PS) (d : Nat) : PS := { st with sl := fun t => frzSD d st.H (st.sl t), H := fun _ => none }
theorem frzAllD_sl (st : PS) (d t : Nat) : (st.frzAllD d).sl t = frzSD d st.H (st.sl t) := rfl
theorem frzAllD_H (st : PS) (d : Nat) : (st.frzAllD d).H = fun _ => none := rfl
theorem frzAllD_nx (st : PS) (d : Nat) : (st.frzAllD d).nx = st.nx := rfl
theorem frzAllD_it (st : PS) (d : Nat) : (st.frzAllD d).it = st.it := rfl
theorem frzSD_def (d : Nat) (H : Nat → Option (List PV)) (p : PV) : frzSD d H p = (Ytfjdfnlkobeehaa.frz (fun _ => true) H d p).getD .any := rfl
attribute [go_sem] frzAllD_sl frzAllD_H frzAllD_nx frzAllD_it frzSD_def
theorem frz_ptr (D : Nat → Bool) (H : Nat → Option (List PV)) (d id off : Nat) : Ytfjdfnlkobeehaa.frz D H (d + 1) (.ptr id off) = if D id = true then (H id).bind fun cs => ((cs.drop off).mapM (Ytfjdfnlkobeehaa.frz D H d)).map .rp else none := rfl
attribute [go_sem] frz_ptr
end Go.Proofs.Ytfjdfnlkobeehaa
end
