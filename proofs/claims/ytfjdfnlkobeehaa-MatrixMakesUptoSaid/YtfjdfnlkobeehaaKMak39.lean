/- Part 39 of the way to the statement: the walk and what it needs. -/
import Derived.Test.YtfjdfnlkobeehaaKMak3
import Derived.Test.YtfjdfnlkobeehaaKMak36
import Derived.Test.YtfjdfnlkobeehaaKMak37
section
set_option linter.unusedVariables false
set_option linter.unusedSimpArgs false
namespace Go.Proofs.Ytfjdfnlkobeehaa

theorem lcs_neg : ∀ (m : List Int) (R : List Vc) (j : Nat), lcs (m.map (- ·)) R j = -lcs m R j
  | [], R, j => by simp [lcs_nil]
  | a :: m, [], j => by simp [lcs_nil_r]
  | a :: m, r :: R, j => by rw [List.map_cons, lcs_cons, lcs_cons, lcs_neg m R j, Int.neg_mul, Int.neg_add]
theorem dtx_lcs (f : List Vc → Int) : ∀ (l p : List Vc), ∃ m : List Int, m.length = l.length ∧ ∀ k, dtx f k p l = lcs m l k
  | [], p => ⟨[], rfl, fun k => by rw [lcs_nil]; rfl⟩
  | r :: rs, p => by
    obtain ⟨m, h1, h2⟩ := dtx_lcs f rs (p ++ [r])
    refine ⟨f (p ++ rs) :: m.map (- ·), by simp [h1], fun k => ?_⟩
    rw [lcs_cons, lcs_neg, ← h2 k, dtx, Int.mul_comm]; rfl
theorem dt_rmove (cs : List Nat) (x : Vc) (R : List Vc) : ∀ (l pre : List Vc), dt cs (pre ++ x :: (l ++ R)) = sgn l.length * dt cs (pre ++ (l ++ x :: R))
  | [], pre => by simp [sgn]
  | c :: l, pre => by
    rw [List.cons_append, dt_alt cs pre (l ++ R) x c, show pre ++ c :: x :: (l ++ R) = (pre ++ [c]) ++ x :: (l ++ R) by simp, dt_rmove cs x R l, List.length_cons, sgn_succ, Int.neg_mul]
    simp
theorem dt_exch (cs : List Nat) (pre mid post : List Vc) (x y : Vc) : dt cs (pre ++ x :: (mid ++ y :: post)) = -dt cs (pre ++ y :: (mid ++ x :: post)) := by
  have h1 := dt_rmove cs x (y :: post) mid pre
  have h2 := dt_rmove cs y (x :: post) mid pre
  rw [h1, h2]
  have h3 := dt_alt cs (pre ++ mid) post x y
  simp only [List.append_assoc] at h3
  rw [h3, Int.mul_neg]
def nmr (C : List Nat) (R : List Vc) (x : Vc) : Vc := fun k => dt (k :: C) (x :: R)
theorem nmr_lcs (C : List Nat) (R : List Vc) (x : Vc) : ∃ m : List Int, m.length = R.length ∧ ∀ k, nmr C R x k = dt C R * x k + lcs m R k := by
  obtain ⟨m, h1, h2⟩ := dtx_lcs (dt C) R [x]
  refine ⟨m.map (- ·), by simp [h1], fun k => ?_⟩
  rw [lcs_neg, ← h2 k]
  show dt (k :: C) (x :: R) = _
  rw [dt_cons, dtx, Int.mul_comm]
  simp only [List.nil_append]
  omega
theorem dt_u {C : List Nat} {R : List Vc} {u : Vc} (hu : ∀ k ∈ C, u k = 0) (c : Nat) : dt (c :: C) (u :: R) = u c * dt C R := by
  have h := dtx_pre0 (f := dt C) (u := u) (fun a b => dt_zero hu) c [] R []
  rw [List.nil_append] at h
  rw [dt_cons, dtx, List.nil_append, List.nil_append, h]; omega
theorem dtx_pre00 {f : List Vc → Int} {u v : Vc} (hf : ∀ q, f (u :: v :: q) = 0) (c : Nat) : ∀ (l p : List Vc), dtx f c (u :: v :: p) l = 0
  | [], p => rfl
  | r :: rs, p => by
    have := dtx_pre00 hf c rs (p ++ [r])
    simp only [dtx, List.cons_append] at this ⊢
    rw [hf, this]; simp
theorem dt_uv {C : List Nat} {R : List Vc} {u v : Vc} (hu : ∀ k ∈ C, u k = 0) (hv : ∀ k ∈ C, v k = 0) (k c : Nat) : dt (k :: c :: C) (u :: v :: R) = (u k * v c - u c * v k) * dt C R := by
  have h0 : ∀ q, dt (c :: C) (u :: v :: q) = 0 := fun q => by
    rw [dt_u hu]
    have := dt_zero (pre := []) (post := q) hv
    rw [List.nil_append] at this
    rw [this, Int.mul_zero]
  rw [dt_cons, dtx, dtx]
  simp only [List.nil_append, List.singleton_append]
  rw [dt_u hv, dt_u hu, dtx_pre00 h0 k R [], Int.sub_mul]
  have e1 : u k * (v c * dt C R) = u k * v c * dt C R := (Int.mul_assoc ..).symm
  have e2 : v k * (u c * dt C R) = u c * v k * dt C R := by ac_rfl
  rw [e1, e2]; omega

theorem bar_step {C : List Nat} {R : List Vc} (hD : dt C R ≠ 0) (hV : ∀ x, ∀ k ∈ C, nmr C R x k = 0) (x o : Vc) (k c : Nat) :
    dt C R * nmr (c :: C) (o :: R) x k = nmr C R x k * nmr C R o c - nmr C R x c * nmr C R o k := by
  obtain ⟨m, hm, h1⟩ := nmr_lcs C R x
  obtain ⟨n, hn, h2⟩ := nmr_lcs C R o
  have e1 : dt (k :: c :: C) (nmr C R x :: o :: R) = dt C R * dt (k :: c :: C) (x :: o :: R) := by
    have := dt_put (cs := k :: c :: C) (pre := []) (post := o :: R) (x := x) (w := nmr C R x) (a := dt C R) (b := 1) (m := []) (n := 0 :: m) fun j _ => by
      rw [h1 j, lcs_nil, lcs_cons]; omega
    simpa using this
  have e2 : dt (k :: c :: C) (nmr C R x :: nmr C R o :: R) = dt C R * dt (k :: c :: C) (nmr C R x :: o :: R) := by
    have := dt_put (cs := k :: c :: C) (pre := [nmr C R x]) (post := R) (x := o) (w := nmr C R o) (a := dt C R) (b := 1) (m := [0]) (n := n) fun j _ => by
      rw [h2 j, lcs_cons, lcs_nil]; omega
    simpa using this
  have e3 := dt_uv (C := C) (R := R) (hV x) (hV o) k c
  rw [e2, e1] at e3
  show dt C R * dt (k :: c :: C) (x :: o :: R) = _
  rw [Int.mul_comm _ (dt C R)] at e3
  exact Int.eq_of_mul_eq_mul_left hD e3
theorem bar_zero {C : List Nat} {R : List Vc} (hD : dt C R ≠ 0) (hV : ∀ x, ∀ k ∈ C, nmr C R x k = 0) (o : Vc) (c : Nat) : ∀ x, ∀ k ∈ c :: C, nmr (c :: C) (o :: R) x k = 0 := fun x k hk => by
  have h := bar_step hD hV x o k c
  have : dt C R * nmr (c :: C) (o :: R) x k = 0 := by
    rw [h]
    rcases List.mem_cons.1 hk with rfl | hk
    · omega
    · rw [hV x k hk, hV o k hk]; omega
  exact (Int.mul_eq_zero.1 this).resolve_left hD

def CC (c : Nat) : List Nat := (List.range c).reverse
def RRo (O : Nat → Vc) (c : Nat) : List Vc := (CC c).map O
theorem CC_succ (c : Nat) : CC (c + 1) = c :: CC c := by unfold CC; rw [List.range_succ, List.reverse_append]; rfl
theorem RRo_succ (O : Nat → Vc) (c : Nat) : RRo O (c + 1) = O c :: RRo O c := by unfold RRo; rw [CC_succ]; rfl
theorem RRo_len (O : Nat → Vc) (c : Nat) : (RRo O c).length = c := by simp [RRo, CC]
theorem mem_CC {c k : Nat} : k ∈ CC c ↔ k < c := by simp [CC]
theorem RRo_congr {O O' : Nat → Vc} {c : Nat} (h : ∀ i, i < c → O i = O' i) : RRo O c = RRo O' c := List.map_congr_left fun i hi => h i (mem_CC.1 hi)

def DD (O : Nat → Vc) (c : Nat) : Int := dt (CC c) (RRo O c)
def NN (O : Nat → Vc) (c : Nat) (x : Vc) : Vc := nmr (CC c) (RRo O c) x
theorem DD_zero (O : Nat → Vc) : DD O 0 = 1 := rfl
theorem DD_succ (O : Nat → Vc) (c : Nat) : DD O (c + 1) = NN O c (O c) c := by unfold DD NN nmr; rw [CC_succ, RRo_succ]
theorem NN_zero (O : Nat → Vc) (x : Vc) (k : Nat) : NN O 0 x k = x k := by
  show dt [k] [x] = x k
  simp [dt, dtx]
theorem NN_low {O : Nat → Vc} : ∀ {c : Nat}, (∀ j, j < c → DD O j ≠ 0) → ∀ x, ∀ k ∈ CC c, nmr (CC c) (RRo O c) x k = 0
  | 0, _ => fun x k hk => by simp [CC] at hk
  | c + 1, h => by
    rw [CC_succ, RRo_succ]
    exact bar_zero (h c (by omega)) (NN_low fun j hj => h j (by omega)) _ _
theorem NN_step {O : Nat → Vc} {c : Nat} (h : ∀ j, j ≤ c → DD O j ≠ 0) (x : Vc) (k : Nat) : DD O c * NN O (c + 1) x k = NN O c x k * NN O c (O c) c - NN O c x c * NN O c (O c) k := by
  have := bar_step (h c (Nat.le_refl _)) (NN_low fun j hj => h j (by omega)) x (O c) k c
  unfold NN DD
  rw [CC_succ, RRo_succ]
  exact this
theorem NN_congr {O O' : Nat → Vc} {c : Nat} (h : ∀ i, i < c → O i = O' i) (x : Vc) : NN O c x = NN O' c x := by unfold NN; rw [RRo_congr h]
theorem DD_congr {O O' : Nat → Vc} {c : Nat} (h : ∀ i, i < c → O i = O' i) : DD O c = DD O' c := by unfold DD; rw [RRo_congr h]

end Go.Proofs.Ytfjdfnlkobeehaa
end

section
set_option linter.unusedVariables false
set_option linter.unusedSimpArgs false
namespace Go.Proofs.Ytfjdfnlkobeehaa


def rw0 (W : List (List Int)) : Nat → Vc := fun i => vc (W.getD i [])

theorem dt_set {cs : List Nat} {l : List Vc} {c p : Nat} (hcp : c < p) (hp : p < l.length) : dt cs ((l.set c (l[p])).set p (l[c]'(by omega))) = -dt cs l := by
  obtain ⟨pre, r, e1, e2⟩ : ∃ pre r, l = pre ++ r ∧ pre.length = c := ⟨l.take c, l.drop c, (List.take_append_drop c l).symm, by simp; omega⟩
  cases r with
  | nil => rw [e1, List.append_nil] at hp; omega
  | cons x r =>
    obtain ⟨mid, s, e3, e4⟩ : ∃ mid s, r = mid ++ s ∧ mid.length = p - c - 1 := ⟨r.take (p - c - 1), r.drop (p - c - 1), (List.take_append_drop _ r).symm, by
      rw [e1] at hp; simp at hp; simp; omega⟩
    cases s with
    | nil => rw [e1, e3, List.append_nil] at hp; simp at hp; omega
    | cons y post =>
      subst e3
      subst e1
      have h1 : (pre ++ x :: (mid ++ y :: post))[c]'(by simp; omega) = x := by
        rw [List.getElem_append_right (by omega)]; simp [e2]
      have h2 : (pre ++ x :: (mid ++ y :: post))[p] = y := by
        rw [List.getElem_append_right (by omega)]
        simp only [e2]
        obtain ⟨d, hd⟩ : ∃ d, p - c = d + 1 := ⟨p - c - 1, by omega⟩
        have e5 : mid.length = d := by omega
        simp only [hd, List.getElem_cons_succ]
        rw [List.getElem_append_right (by omega)]
        simp [e5]
      rw [h1, h2, List.set_append_right _ _ (by omega), e2, Nat.sub_self, List.set_cons_zero, List.set_append_right _ _ (by omega), e2]
      obtain ⟨d, hd⟩ : ∃ d, p - c = d + 1 := ⟨p - c - 1, by omega⟩
      have e5 : mid.length = d := by omega
      rw [hd, List.set_cons_succ, List.set_append_right _ _ (by omega), e5, Nat.sub_self, List.set_cons_zero]
      have := dt_exch cs pre mid post y x
      rw [this]
theorem dt_swp {cs : List Nat} {O : Nat → Vc} {n c p : Nat} (hcp : c ≤ p) (hp : p < n) : dt cs ((List.range n).map fun k => O (swp p c k)) = (if p = c then 1 else -1) * dt cs ((List.range n).map O) := by
  by_cases h : p = c
  · subst h
    rw [if_pos rfl, Int.one_mul]
    have : (fun k => O (swp p p k)) = O := funext fun k => by
      unfold swp
      by_cases hk : k = p
      · rw [if_pos hk, hk]
      · rw [if_neg hk, if_neg hk]
    rw [this]
  · rw [if_neg h]
    have hl : ((List.range n).map O).length = n := by simp
    have := dt_set (cs := cs) (l := (List.range n).map O) (c := c) (p := p) (by omega) (by omega)
    rw [show -1 * dt cs ((List.range n).map O) = -dt cs ((List.range n).map O) by omega, ← this]
    congr 1
    refine List.ext_getElem (by simp) fun k h1 h2 => ?_
    simp only [List.getElem_map, List.getElem_range, List.getElem_set]
    unfold swp
    by_cases hkp : k = p
    · subst hkp
      simp
    · have hpk : ¬ p = k := fun e => hkp e.symm
      by_cases hkc : k = c
      · subst hkc
        simp [hkp, hpk]
      · have hck : ¬ c = k := fun e => hkc e.symm
        simp [hkp, hpk, hkc, hck]

def brow (last : Int) (c : Nat) (p z : List Int) : List Int := z.mapIdx fun k x => if k ≤ c then x else (x * vc p c - vc z c * vc p k) / last
def bstep (last : Int) (c : Nat) (W : List (List Int)) : List (List Int) := W.mapIdx fun i z => if i ≤ c then z else brow last c (W.getD c []) z
theorem brow_len (last : Int) (c : Nat) (p z : List Int) : (brow last c p z).length = z.length := by simp [brow]
theorem bstep_len (last : Int) (c : Nat) (W : List (List Int)) : (bstep last c W).length = W.length := by simp [bstep]
theorem brow_vc {last : Int} {c : Nat} {p z : List Int} {k : Nat} (h : k < z.length) : vc (brow last c p z) k = if k ≤ c then vc z k else (vc z k * vc p c - vc z c * vc p k) / last := by
  rw [vc_lt (by rw [brow_len]; exact h), vc_lt h]
  simp [brow]
theorem bstep_get {last : Int} {c i : Nat} {W : List (List Int)} (h : i < W.length) : (bstep last c W).getD i [] = if i ≤ c then W.getD i [] else brow last c (W.getD c []) (W.getD i []) := by
  simp [bstep, h, List.getD_eq_getElem?_getD]

structure BI (W0 : List (List Int)) (n c : Nat) (β B : Nat) (W : List (List Int)) (last : Int) (t : Bool) : Prop where
  len : W.length = n
  row : ∀ i, i < n → (W.getD i []).length = n
  st : ∃ (O : Nat → Vc) (κ : Nat → Nat), (∀ cs, dt cs ((List.range n).map (rw0 W0)) = (if t then -1 else 1) * dt cs ((List.range n).map O)) ∧ (∀ i, i < n → ∃ j, j < n ∧ rw0 W0 i = O j) ∧
    last = DD O c ∧ (∀ j, j ≤ c → DD O j ≠ 0) ∧ (∀ i, c ≤ i → i < n → ∀ k, c ≤ k → k < n → vc (W.getD i []) k = NN O c (O i) k) ∧
    (∀ k, k < n → ∀ j, (O k j).natAbs ≤ β ^ κ k) ∧ sz κ n ≤ B
section
variable {W0 W : List (List Int)} {n c β B : Nat} {last : Int} {t : Bool}
theorem BI.start {κ : Nat → Nat} (hl : W0.length = n) (hc : ∀ i, i < n → (W0.getD i []).length = n) (hk : ∀ k, k < n → ∀ j, (rw0 W0 k j).natAbs ≤ β ^ κ k) (hB : sz κ n ≤ B) : BI W0 n 0 β B W0 1 false :=
  ⟨hl, hc, rw0 W0, κ, fun cs => by simp, fun i hi => ⟨i, hi, rfl⟩, rfl, fun j hj => by
    obtain rfl : j = 0 := by omega
    rw [DD_zero]; decide, fun i _ hi k _ hk => (NN_zero _ _ _).symm, hk, hB⟩
theorem BI.step (h : BI W0 n c β B W last t) (hcn : c < n) (hf : findP W c c < W.length) : BI W0 n (c + 1) β B (bstep last c (swapL W c (findP W c c))) (vc ((swapL W c (findP W c c)).getD c []) c) (xor t (decide (findP W c c ≠ c))) := by
  obtain ⟨O, κ, hs, hO, hla, hnz, hent, hsz, hB⟩ := h.st
  obtain ⟨hcp, hp0⟩ := findP_spec hf
  have hlen := h.len
  rw [hlen] at hf
  generalize findP W c c = p at *
  have hsl : (swapL W c p).length = n := by rw [swapL_len]; exact hlen
  have hsg : ∀ k, k < n → (swapL W c p).getD k [] = W.getD (swp p c k) [] := fun k hk => swapL_get (by omega) (by omega) (by omega)
  have hO' : ∀ i, i < c → O i = O (swp p c i) := fun i hi => by rw [swp_lt hcp hi]
  have hDc : ∀ j, j ≤ c → DD (fun k => O (swp p c k)) j = DD O j := fun j hj => (DD_congr fun i hi => hO' i (by omega)).symm
  have hNc : ∀ x, NN (fun k => O (swp p c k)) c x = NN O c x := fun x => (NN_congr fun i hi => hO' i hi) x ▸ rfl
  have hent' : ∀ i, c ≤ i → i < n → ∀ k, c ≤ k → k < n → vc ((swapL W c p).getD i []) k = NN (fun k => O (swp p c k)) c (O (swp p c i)) k := fun i hi hin k hk hkn => by
    rw [hsg i hin, hNc]
    exact hent _ (swp_ge hcp hi) (swp_bd hf hcn hin) k hk hkn
  have hpc : vc ((swapL W c p).getD c []) c ≠ 0 := by rw [hsg c hcn, swp_t]; exact hp0
  have hDD : DD (fun k => O (swp p c k)) (c + 1) = vc ((swapL W c p).getD c []) c := by
    rw [DD_succ, hent' c (Nat.le_refl _) hcn c (Nat.le_refl _) hcn]
  have hnz' : ∀ j, j ≤ c → DD (fun k => O (swp p c k)) j ≠ 0 := fun j hj => by rw [hDc j hj]; exact hnz j hj
  refine ⟨by rw [bstep_len]; exact hsl, fun i hi => ?_, fun k => O (swp p c k), fun k => κ (swp p c k), fun cs => ?_, fun i hi => ?_, hDD.symm, fun j hj => ?_, fun i hi hin k hk hkn => ?_, fun k hk j => hsz _ (swp_bd hf hcn hk) j, by rw [sz_swp hf hcn]; exact hB⟩
  · rw [bstep_get (by omega)]
    have h1 := h.row _ (swp_bd hf hcn hi)
    split
    · rw [hsg i hi]; exact h1
    · rw [brow_len, hsg i hi]; exact h1
  · rw [hs cs, dt_swp hcp hf]
    by_cases hpe : p = c
    · cases t <;> simp [hpe]
    · cases t <;> simp [hpe]
  · obtain ⟨j, hj, e⟩ := hO i hi
    refine ⟨swp p c j, swp_bd hf hcn hj, ?_⟩
    simp only [swp_swp]; exact e
  · by_cases hjc : j ≤ c
    · exact hnz' j hjc
    · rw [show j = c + 1 by omega, hDD]; exact hpc
  · have hrl := h.row _ (swp_bd hf hcn hin)
    rw [bstep_get (by omega), if_neg (by omega), brow_vc (by rw [hsg i hin, hrl]; exact hkn), if_neg (by omega)]
    rw [hent' i (by omega) hin k (by omega) hkn, hent' i (by omega) hin c (Nat.le_refl _) hcn, hent' c (Nat.le_refl _) hcn c (Nat.le_refl _) hcn, hent' c (Nat.le_refl _) hcn k (by omega) hkn]
    rw [← NN_step hnz', hDc c (Nat.le_refl _), hla]
    exact Int.mul_ediv_cancel_left _ (hnz c (Nat.le_refl _))
theorem BI.z (h : BI W0 n c β B W last t) (hn : n + 1 ≤ β) (hβ : 1 ≤ β) {i k : Nat} (hi : c ≤ i) (hin : i < n) (hk : c ≤ k) (hkn : k < n) : (vc (W.getD i []) k).natAbs ≤ β ^ B := by
  obtain ⟨O, κ, hs, hO, hla, hnz, hent, hsz, hB⟩ := h.st
  rw [hent i hi hin k hk hkn]
  have h1 := dt_bound (k :: CC c) (O i :: RRo O c) (κ i :: (CC c).map κ) ⟨fun j _ => hsz i hin j, (Bd_range (cs := k :: CC c) (CC c) fun r hr => hsz r (by have := mem_CC.1 hr; omega))⟩ (by rw [List.length_cons, RRo_len]; omega)
  refine Nat.le_trans h1 (Nat.pow_le_pow_right hβ ?_)
  have h2 : wsum ((CC c).map κ) = sz κ c := by
    unfold sz CC wsum
    rw [List.map_reverse, List.sum_reverse, List.length_reverse]
  rw [wsum_cons, h2]
  have h3 : ∀ m, c ≤ i → i < m → κ i + 1 + sz κ c ≤ sz κ m := by
    intro m hci him
    have a1 := sz_succ κ i
    have a2 := sz_mono (κ := κ) (show i + 1 ≤ m from him)
    have a3 := sz_mono (κ := κ) hci
    omega
  have := h3 n hi hin
  omega
end
end Go.Proofs.Ytfjdfnlkobeehaa
end

section
set_option maxRecDepth 100000
set_option linter.unusedVariables false
set_option linter.unusedSimpArgs false
namespace Go.Proofs.Ytfjdfnlkobeehaa

theorem spl_app {α : Type} {l r : List α} {k : Nat} {x : List α} (h : k + x.length ≤ l.length) : spl (l ++ r) k x = spl l k x ++ r := by
  unfold spl
  rw [List.take_append_of_le_length (by omega), List.drop_append_of_le_length h, List.append_assoc, List.append_assoc]
def MC (ids caps : Nat → Nat) (cols n : Nat) : List PV := (List.range n).map fun i => .ref (ids i) 0 cols (caps i) 2
structure MO (H : Nat → Option (List PV)) (lo b idM n cols : Nat) (ids caps : Nat → Nat) (f : Nat → List Int) : Prop where
  out : ∃ rest : List Value, H idM = some (MC ids caps cols n ++ rest.map .val)
  row : ∀ i, i < n → ∃ rest : List Value, H (ids i) = some (SWc (CZ (f i)) ++ rest.map .val)
  lt : ∀ i, i < n → lo ≤ ids i ∧ ids i < b ∧ ids i ≠ idM
  inj : ∀ i j, i < n → j < n → ids i = ids j → i = j
  idM : lo ≤ idM ∧ idM < b
  len : ∀ i, i < n → (f i).length = cols
theorem MO.mono {H H' : Nat → Option (List PV)} {lo b b' idM n cols : Nat} {ids caps : Nat → Nat} {f : Nat → List Int} (h : MO H lo b idM n cols ids caps f) (hb : b ≤ b') (hH : ∀ j, lo ≤ j → j < b → H' j = H j) : MO H' lo b' idM n cols ids caps f := by
  obtain ⟨rest, ho⟩ := h.out
  refine ⟨⟨rest, by rw [hH _ h.idM.1 h.idM.2]; exact ho⟩, fun i hi => ?_, fun i hi => ?_, h.inj, ⟨h.idM.1, by have := h.idM.2; omega⟩, h.len⟩
  · obtain ⟨r, hr⟩ := h.row i hi
    have := h.lt i hi
    exact ⟨r, by rw [hH _ this.1 this.2.1]; exact hr⟩
  · have := h.lt i hi
    exact ⟨this.1, by omega, this.2.2⟩
theorem MO.congr {H : Nat → Option (List PV)} {lo b idM n cols : Nat} {ids caps : Nat → Nat} {f g : Nat → List Int} (h : MO H lo b idM n cols ids caps f) (e : ∀ i, i < n → f i = g i) : MO H lo b idM n cols ids caps g :=
  ⟨h.out, fun i hi => by rw [← e i hi]; exact h.row i hi, h.lt, h.inj, h.idM, fun i hi => by rw [← e i hi]; exact h.len i hi⟩
theorem MO.set {H : Nat → Option (List PV)} {lo b idM n cols i : Nat} {ids caps : Nat → Nat} {f : Nat → List Int} {z : List Int} {rest : List Value} (h : MO H lo b idM n cols ids caps f) (hi : i < n) (hz : z.length = cols) : MO (upd H (ids i) (some (SWc (CZ z) ++ rest.map .val))) lo b idM n cols ids caps (fun j => if j = i then z else f j) := by
  obtain ⟨r0, ho⟩ := h.out
  refine ⟨⟨r0, by rw [upd_ne _ _ (Ne.symm (h.lt i hi).2.2)]; exact ho⟩, fun j hj => ?_, h.lt, h.inj, h.idM, fun j hj => ?_⟩
  · by_cases hji : j = i
    · subst hji
      exact ⟨rest, by rw [upd_self, if_pos rfl]⟩
    · obtain ⟨r, hr⟩ := h.row j hj
      exact ⟨r, by rw [upd_ne _ _ (fun e => hji (h.inj j i hj hi e)), if_neg hji]; exact hr⟩
  · show (if j = i then z else f j).length = cols
    split
    · exact hz
    · exact h.len j hj
theorem MO.swp {H : Nat → Option (List PV)} {lo b idM n cols p c : Nat} {ids caps : Nat → Nat} {f : Nat → List Int} {rest : List Value} (h : MO H lo b idM n cols ids caps f) (hp : p < n) (hc : c < n) :
    MO (upd H idM (some (MC (fun i => ids (Ytfjdfnlkobeehaa.swp p c i)) (fun i => caps (Ytfjdfnlkobeehaa.swp p c i)) cols n ++ rest.map .val))) lo b idM n cols (fun i => ids (Ytfjdfnlkobeehaa.swp p c i)) (fun i => caps (Ytfjdfnlkobeehaa.swp p c i)) (fun i => f (Ytfjdfnlkobeehaa.swp p c i)) := by
  refine ⟨⟨rest, upd_self _ _ _⟩, fun i hi => ?_, fun i hi => h.lt _ (swp_bd hp hc hi), fun i j hi hj e => ?_, h.idM, fun i hi => h.len _ (swp_bd hp hc hi)⟩
  · obtain ⟨r, hr⟩ := h.row _ (swp_bd hp hc hi)
    exact ⟨r, by rw [upd_ne _ _ (h.lt _ (swp_bd hp hc hi)).2.2]; exact hr⟩
  · have := h.inj _ _ (swp_bd hp hc hi) (swp_bd hp hc hj) e
    have := congrArg (Ytfjdfnlkobeehaa.swp p c) this
    rwa [swp_swp, swp_swp] at this

end Go.Proofs.Ytfjdfnlkobeehaa
end

section
set_option maxRecDepth 100000
set_option linter.unusedVariables false
set_option linter.unusedSimpArgs false
namespace Go.Proofs.Ytfjdfnlkobeehaa

end Go.Proofs.Ytfjdfnlkobeehaa
end

section
set_option maxRecDepth 100000
set_option linter.unusedVariables false
set_option linter.unusedSimpArgs false
namespace Go.Proofs.Ytfjdfnlkobeehaa


end Go.Proofs.Ytfjdfnlkobeehaa
end
