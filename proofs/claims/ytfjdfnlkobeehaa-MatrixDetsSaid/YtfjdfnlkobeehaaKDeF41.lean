/- Part 41 of the way to the statement: the walk and what it needs. -/
import Derived.Test.YtfjdfnlkobeehaaKDeF3
import Derived.Test.YtfjdfnlkobeehaaKDeF36
import Derived.Test.YtfjdfnlkobeehaaKDeF40
section
set_option linter.unusedVariables false
set_option linter.unusedSimpArgs false
namespace Go.Proofs.Ytfjdfnlkobeehaa

theorem lcs_neg : ∀ (m : List Int) (R : List Vc) (j : Nat), lcs (m.map (- ·)) R j = -lcs m R j
  | [], R, j => by simp [lcs_nil]
  | a :: m, [], j => by simp [lcs_nil_r]
  | a :: m, r :: R, j => by rw [List.map_cons, lcs_cons, lcs_cons, lcs_neg m R j, Int.neg_mul, Int.neg_add]
theorem dtx_lcs (f : List Vc → Int) : ∀ (l p : List Vc), ∃ m : List Int, m.length = l.length ∧ ∀ k, dtx f k p l = lcs m l k
  | [], p => ⟨[], rfl, fun k => by rw [lcs_nil]; rfl⟩
  | r :: rs, p => by
    obtain ⟨m, h1, h2⟩ := dtx_lcs f rs (p ++ [r])
    refine ⟨f (p ++ rs) :: m.map (- ·), by simp [h1], fun k => ?_⟩
    rw [lcs_cons, lcs_neg, ← h2 k, dtx, Int.mul_comm]; rfl
theorem dtx_zeroF {f : List Vc → Int} (hf : ∀ q, f q = 0) (c : Nat) : ∀ (l p : List Vc), dtx f c p l = 0
  | [], p => rfl
  | r :: rs, p => by rw [dtx, hf, dtx_zeroF hf c rs]; simp
theorem dtx_sub {f g : List Vc → Int} (a b : Int) (c : Nat) : ∀ (l p : List Vc), dtx (fun q => a * f q + b * g q) c p l = a * dtx f c p l + b * dtx g c p l
  | [], p => by simp [dtx]
  | r :: rs, p => by
    simp only [dtx, dtx_sub a b c rs, Int.mul_add, Int.mul_sub]
    rw [Int.mul_left_comm (r c) a, Int.mul_left_comm (r c) b]
    omega
theorem dtx_split (f : List Vc → Int) (c : Nat) (m : List Vc) : ∀ (P u : List Vc), dtx f c u (P ++ m) = dtx (fun q => f (q ++ m)) c u P + sgn P.length * dtx f c (u ++ P) m
  | [], u => by simp [dtx, sgn]
  | x :: P, u => by
    rw [List.cons_append, dtx, dtx, dtx_split f c m P (u ++ [x]), List.length_cons, sgn_succ, Int.neg_mul, List.append_assoc, List.append_assoc]
    show _ = _ - _ + -(sgn P.length * dtx f c (u ++ ([x] ++ P)) m)
    omega

def dtX (g : List Vc → Int) (a b : Nat) : List Vc → List Vc → Int
  | _, [] => 0
  | p, r :: rs => r a * dtx g b p rs - r b * dtx g a p rs + dtX g a b (p ++ [r]) rs
theorem dtX_anti (g : List Vc → Int) (a b : Nat) : ∀ (l p : List Vc), dtX g a b p l = -dtX g b a p l
  | [], p => rfl
  | r :: rs, p => by
    have := dtX_anti g a b rs (p ++ [r])
    simp only [dtX]
    omega
theorem dtx_two (g : List Vc → Int) (a b : Nat) : ∀ (l P : List Vc), dtx (dtx g b []) a P l = dtx (fun q => dtx g a q l) b [] P + sgn P.length * dtX g a b P l
  | [], P => by
    rw [dtx_zeroF (f := fun q => dtx g a q []) (fun q => rfl)]
    simp [dtx, dtX]
  | r :: rs, P => by
    have ih := dtx_two g a b rs (P ++ [r])
    have e1 := dtx_split (fun q => dtx g a q rs) b [r] P []
    have e2 := dtx_split g b rs P []
    have e3 : dtx (fun q => dtx g a q rs) b ([] ++ P) [r] = r b * dtx g a P rs := by simp [dtx]
    rw [e3] at e1
    have e4 : dtx (fun q => dtx g a q (r :: rs)) b [] P = r a * dtx (fun q => g (q ++ rs)) b [] P - dtx (fun q => dtx g a (q ++ [r]) rs) b [] P := by
      have := dtx_sub (f := fun q => g (q ++ rs)) (g := fun q => dtx g a (q ++ [r]) rs) (r a) (-1) b P []
      rw [show (fun q => dtx g a q (r :: rs)) = fun q => r a * g (q ++ rs) + -1 * dtx g a (q ++ [r]) rs from funext fun q => by rw [dtx]; omega, this]
      omega
    rw [dtx, ih, e1, e2, e4, dtX, List.length_append, List.length_singleton, sgn_succ, List.nil_append]
    simp only [Int.mul_add, Int.mul_sub, Int.neg_mul]
    rw [Int.mul_left_comm (sgn P.length) (r a), Int.mul_left_comm (sgn P.length) (r b)]
    omega

theorem dt_csw (a b : Nat) (cs : List Nat) (rs : List Vc) : dt (a :: b :: cs) rs = -dt (b :: a :: cs) rs := by
  have e : ∀ a b, dt (a :: b :: cs) rs = dtX (dt cs) a b [] rs := fun a b => by
    have h := dtx_two (dt cs) a b rs []
    have h0 : dtx (fun q => dtx (dt cs) a q rs) b [] [] = 0 := rfl
    rw [h0] at h
    rw [dt_cons, show dt (b :: cs) = dtx (dt cs) b [] from funext fun q => dt_cons b cs q, h]
    simp [sgn]
  rw [e a b, e b a, dtX_anti]
theorem dt_cswl (a b : Nat) (cs : List Nat) : ∀ (l : List Nat) (rs : List Vc), dt (l ++ a :: b :: cs) rs = -dt (l ++ b :: a :: cs) rs
  | [], rs => dt_csw a b cs rs
  | c :: l, rs => by
    rw [List.cons_append, List.cons_append, dt_cons, dt_cons]
    have : dt (l ++ a :: b :: cs) = fun q => -1 * dt (l ++ b :: a :: cs) q + 0 * dt [] q := funext fun q => by rw [dt_cswl a b cs l q]; omega
    rw [this, dtx_sub]; omega
theorem dt_cmove (a : Nat) (cs : List Nat) : ∀ (l : List Nat) (pre : List Nat) (rs : List Vc), dt (pre ++ a :: (l ++ cs)) rs = sgn l.length * dt (pre ++ (l ++ a :: cs)) rs
  | [], pre, rs => by simp [sgn]
  | c :: l, pre, rs => by
    rw [List.cons_append, dt_cswl, show pre ++ c :: a :: (l ++ cs) = (pre ++ [c]) ++ a :: (l ++ cs) by simp, dt_cmove a cs l, List.length_cons, sgn_succ, Int.neg_mul]
    simp
theorem dt_rmove (cs : List Nat) (x : Vc) (R : List Vc) : ∀ (l pre : List Vc), dt cs (pre ++ x :: (l ++ R)) = sgn l.length * dt cs (pre ++ (l ++ x :: R))
  | [], pre => by simp [sgn]
  | c :: l, pre => by
    rw [List.cons_append, dt_alt cs pre (l ++ R) x c, show pre ++ c :: x :: (l ++ R) = (pre ++ [c]) ++ x :: (l ++ R) by simp, dt_rmove cs x R l, List.length_cons, sgn_succ, Int.neg_mul]
    simp
theorem dt_cend (a : Nat) (l pre : List Nat) (rs : List Vc) : dt (pre ++ (l ++ [a])) rs = sgn l.length * dt (pre ++ a :: l) rs := by
  have h := dt_cmove a [] l pre rs
  rw [List.append_nil] at h
  rw [h, ← Int.mul_assoc, sgn_sq, Int.one_mul]
theorem dt_rend (cs : List Nat) (x : Vc) (l pre : List Vc) : dt cs (pre ++ (l ++ [x])) = sgn l.length * dt cs (pre ++ x :: l) := by
  have h := dt_rmove cs x [] l pre
  rw [List.append_nil] at h
  rw [h, ← Int.mul_assoc, sgn_sq, Int.one_mul]

def rsg : Nat → Int
  | 0 => 1
  | n + 1 => sgn n * rsg n
theorem rsg_sq : ∀ n, rsg n * rsg n = 1
  | 0 => rfl
  | n + 1 => by
    rw [rsg, show sgn n * rsg n * (sgn n * rsg n) = (sgn n * sgn n) * (rsg n * rsg n) by ac_rfl, sgn_sq, rsg_sq n]; rfl
theorem dt_crev (rs : List Vc) : ∀ (cs pre : List Nat), dt (pre ++ cs.reverse) rs = rsg cs.length * dt (pre ++ cs) rs
  | [], pre => by simp [rsg]
  | c :: cs, pre => by
    have h := dt_crev rs cs (pre ++ [c])
    simp only [List.append_assoc, List.singleton_append] at h
    rw [List.reverse_cons, dt_cend, h, List.length_reverse, List.length_cons, rsg, Int.mul_assoc]
theorem dt_rrev (cs : List Nat) : ∀ (l pre : List Vc), dt cs (pre ++ l.reverse) = rsg l.length * dt cs (pre ++ l)
  | [], pre => by simp [rsg]
  | c :: l, pre => by
    have h := dt_rrev cs l (pre ++ [c])
    simp only [List.append_assoc, List.singleton_append] at h
    rw [List.reverse_cons, dt_rend, h, List.length_reverse, List.length_cons, rsg, Int.mul_assoc]

theorem dt_rev {cs : List Nat} {rs : List Vc} (h : rs.length = cs.length) : dt cs.reverse rs.reverse = dt cs rs := by
  have h1 := dt_crev rs.reverse cs []
  have h2 := dt_rrev cs rs []
  simp only [List.nil_append] at h1 h2
  rw [h1, h2, h, ← Int.mul_assoc, rsg_sq, Int.one_mul]


theorem dt_exch (cs : List Nat) (pre mid post : List Vc) (x y : Vc) : dt cs (pre ++ x :: (mid ++ y :: post)) = -dt cs (pre ++ y :: (mid ++ x :: post)) := by
  have h1 := dt_rmove cs x (y :: post) mid pre
  have h2 := dt_rmove cs y (x :: post) mid pre
  rw [h1, h2]
  have h3 := dt_alt cs (pre ++ mid) post x y
  simp only [List.append_assoc] at h3
  rw [h3, Int.mul_neg]
theorem dt_perm (cs : List Nat) {l m : List Vc} (h : l.Perm m) : ∀ pre, dt cs (pre ++ l) = dt cs (pre ++ m) ∨ dt cs (pre ++ l) = -dt cs (pre ++ m) := by
  induction h with
  | nil => exact fun pre => .inl rfl
  | cons x _ ih =>
    intro pre
    have := ih (pre ++ [x])
    simpa using this
  | swap x y l => exact fun pre => .inr (dt_alt cs pre l y x)
  | trans _ _ ih1 ih2 =>
    intro pre
    rcases ih1 pre with h1 | h1 <;> rcases ih2 pre with h2 | h2 <;> rw [h1, h2]
    · exact .inl rfl
    · exact .inr rfl
    · exact .inr rfl
    · exact .inl (by omega)


def nmr (C : List Nat) (R : List Vc) (x : Vc) : Vc := fun k => dt (k :: C) (x :: R)
theorem nmr_lcs (C : List Nat) (R : List Vc) (x : Vc) : ∃ m : List Int, m.length = R.length ∧ ∀ k, nmr C R x k = dt C R * x k + lcs m R k := by
  obtain ⟨m, h1, h2⟩ := dtx_lcs (dt C) R [x]
  refine ⟨m.map (- ·), by simp [h1], fun k => ?_⟩
  rw [lcs_neg, ← h2 k]
  show dt (k :: C) (x :: R) = _
  rw [dt_cons, dtx, Int.mul_comm]
  simp only [List.nil_append]
  omega
theorem dt_u {C : List Nat} {R : List Vc} {u : Vc} (hu : ∀ k ∈ C, u k = 0) (c : Nat) : dt (c :: C) (u :: R) = u c * dt C R := by
  have h := dtx_pre0 (f := dt C) (u := u) (fun a b => dt_zero hu) c [] R []
  rw [List.nil_append] at h
  rw [dt_cons, dtx, List.nil_append, List.nil_append, h]; omega
theorem dtx_pre00 {f : List Vc → Int} {u v : Vc} (hf : ∀ q, f (u :: v :: q) = 0) (c : Nat) : ∀ (l p : List Vc), dtx f c (u :: v :: p) l = 0
  | [], p => rfl
  | r :: rs, p => by
    have := dtx_pre00 hf c rs (p ++ [r])
    simp only [dtx, List.cons_append] at this ⊢
    rw [hf, this]; simp
theorem dt_uv {C : List Nat} {R : List Vc} {u v : Vc} (hu : ∀ k ∈ C, u k = 0) (hv : ∀ k ∈ C, v k = 0) (k c : Nat) : dt (k :: c :: C) (u :: v :: R) = (u k * v c - u c * v k) * dt C R := by
  have h0 : ∀ q, dt (c :: C) (u :: v :: q) = 0 := fun q => by
    rw [dt_u hu]
    have := dt_zero (pre := []) (post := q) hv
    rw [List.nil_append] at this
    rw [this, Int.mul_zero]
  rw [dt_cons, dtx, dtx]
  simp only [List.nil_append, List.singleton_append]
  rw [dt_u hv, dt_u hu, dtx_pre00 h0 k R [], Int.sub_mul]
  have e1 : u k * (v c * dt C R) = u k * v c * dt C R := (Int.mul_assoc ..).symm
  have e2 : v k * (u c * dt C R) = u c * v k * dt C R := by ac_rfl
  rw [e1, e2]; omega

theorem bar_step {C : List Nat} {R : List Vc} (hD : dt C R ≠ 0) (hV : ∀ x, ∀ k ∈ C, nmr C R x k = 0) (x o : Vc) (k c : Nat) :
    dt C R * nmr (c :: C) (o :: R) x k = nmr C R x k * nmr C R o c - nmr C R x c * nmr C R o k := by
  obtain ⟨m, hm, h1⟩ := nmr_lcs C R x
  obtain ⟨n, hn, h2⟩ := nmr_lcs C R o
  have e1 : dt (k :: c :: C) (nmr C R x :: o :: R) = dt C R * dt (k :: c :: C) (x :: o :: R) := by
    have := dt_put (cs := k :: c :: C) (pre := []) (post := o :: R) (x := x) (w := nmr C R x) (a := dt C R) (b := 1) (m := []) (n := 0 :: m) fun j _ => by
      rw [h1 j, lcs_nil, lcs_cons]; omega
    simpa using this
  have e2 : dt (k :: c :: C) (nmr C R x :: nmr C R o :: R) = dt C R * dt (k :: c :: C) (nmr C R x :: o :: R) := by
    have := dt_put (cs := k :: c :: C) (pre := [nmr C R x]) (post := R) (x := o) (w := nmr C R o) (a := dt C R) (b := 1) (m := [0]) (n := n) fun j _ => by
      rw [h2 j, lcs_cons, lcs_nil]; omega
    simpa using this
  have e3 := dt_uv (C := C) (R := R) (hV x) (hV o) k c
  rw [e2, e1] at e3
  show dt C R * dt (k :: c :: C) (x :: o :: R) = _
  rw [Int.mul_comm _ (dt C R)] at e3
  exact Int.eq_of_mul_eq_mul_left hD e3
theorem bar_zero {C : List Nat} {R : List Vc} (hD : dt C R ≠ 0) (hV : ∀ x, ∀ k ∈ C, nmr C R x k = 0) (o : Vc) (c : Nat) : ∀ x, ∀ k ∈ c :: C, nmr (c :: C) (o :: R) x k = 0 := fun x k hk => by
  have h := bar_step hD hV x o k c
  have : dt C R * nmr (c :: C) (o :: R) x k = 0 := by
    rw [h]
    rcases List.mem_cons.1 hk with rfl | hk
    · omega
    · rw [hV x k hk, hV o k hk]; omega
  exact (Int.mul_eq_zero.1 this).resolve_left hD

def CC (c : Nat) : List Nat := (List.range c).reverse
def RRo (O : Nat → Vc) (c : Nat) : List Vc := (CC c).map O
theorem CC_succ (c : Nat) : CC (c + 1) = c :: CC c := by unfold CC; rw [List.range_succ, List.reverse_append]; rfl
theorem RRo_succ (O : Nat → Vc) (c : Nat) : RRo O (c + 1) = O c :: RRo O c := by unfold RRo; rw [CC_succ]; rfl
theorem RRo_len (O : Nat → Vc) (c : Nat) : (RRo O c).length = c := by simp [RRo, CC]
theorem mem_CC {c k : Nat} : k ∈ CC c ↔ k < c := by simp [CC]
theorem RRo_congr {O O' : Nat → Vc} {c : Nat} (h : ∀ i, i < c → O i = O' i) : RRo O c = RRo O' c := List.map_congr_left fun i hi => h i (mem_CC.1 hi)

def DD (O : Nat → Vc) (c : Nat) : Int := dt (CC c) (RRo O c)
def NN (O : Nat → Vc) (c : Nat) (x : Vc) : Vc := nmr (CC c) (RRo O c) x
theorem DD_zero (O : Nat → Vc) : DD O 0 = 1 := rfl
theorem DD_succ (O : Nat → Vc) (c : Nat) : DD O (c + 1) = NN O c (O c) c := by unfold DD NN nmr; rw [CC_succ, RRo_succ]
theorem NN_zero (O : Nat → Vc) (x : Vc) (k : Nat) : NN O 0 x k = x k := by
  show dt [k] [x] = x k
  simp [dt, dtx]
theorem DD_range (O : Nat → Vc) (n : Nat) : DD O n = dt (List.range n) ((List.range n).map O) := by
  unfold DD RRo CC
  rw [List.map_reverse]
  exact dt_rev (by simp)
theorem NN_low {O : Nat → Vc} : ∀ {c : Nat}, (∀ j, j < c → DD O j ≠ 0) → ∀ x, ∀ k ∈ CC c, nmr (CC c) (RRo O c) x k = 0
  | 0, _ => fun x k hk => by simp [CC] at hk
  | c + 1, h => by
    rw [CC_succ, RRo_succ]
    exact bar_zero (h c (by omega)) (NN_low fun j hj => h j (by omega)) _ _
theorem NN_step {O : Nat → Vc} {c : Nat} (h : ∀ j, j ≤ c → DD O j ≠ 0) (x : Vc) (k : Nat) : DD O c * NN O (c + 1) x k = NN O c x k * NN O c (O c) c - NN O c x c * NN O c (O c) k := by
  have := bar_step (h c (Nat.le_refl _)) (NN_low fun j hj => h j (by omega)) x (O c) k c
  unfold NN DD
  rw [CC_succ, RRo_succ]
  exact this
theorem NN_congr {O O' : Nat → Vc} {c : Nat} (h : ∀ i, i < c → O i = O' i) (x : Vc) : NN O c x = NN O' c x := by unfold NN; rw [RRo_congr h]
theorem DD_congr {O O' : Nat → Vc} {c : Nat} (h : ∀ i, i < c → O i = O' i) : DD O c = DD O' c := by unfold DD; rw [RRo_congr h]

theorem NN_lin (O : Nat → Vc) (c : Nat) {u v w : Vc} {a b g : Int} (h : ∀ j, g * w j = a * u j + b * v j) (k : Nat) : g * NN O c w k = a * NN O c u k + b * NN O c v k := by
  have e1 := dt_lin (k :: CC c) [] (RRo O c) a b u v (fun j => g * w j) (fun j _ => h j)
  have e2 := dt_scale (cs := k :: CC c) (pre := []) (post := RRo O c) (u := w) (w := fun j => g * w j) (a := g) (fun j _ => rfl)
  simp only [List.nil_append] at e1 e2
  rw [e2] at e1
  exact e1
end Go.Proofs.Ytfjdfnlkobeehaa
end

section
set_option linter.unusedVariables false
set_option linter.unusedSimpArgs false
namespace Go.Proofs.Ytfjdfnlkobeehaa


def rw0 (W : List (List Int)) : Nat → Vc := fun i => vc (W.getD i [])

def detZ (W : List (List Int)) (n : Nat) : Int := dt (List.range n) ((List.range n).map (rw0 W))
theorem dt_set {cs : List Nat} {l : List Vc} {c p : Nat} (hcp : c < p) (hp : p < l.length) : dt cs ((l.set c (l[p])).set p (l[c]'(by omega))) = -dt cs l := by
  obtain ⟨pre, r, e1, e2⟩ : ∃ pre r, l = pre ++ r ∧ pre.length = c := ⟨l.take c, l.drop c, (List.take_append_drop c l).symm, by simp; omega⟩
  cases r with
  | nil => rw [e1, List.append_nil] at hp; omega
  | cons x r =>
    obtain ⟨mid, s, e3, e4⟩ : ∃ mid s, r = mid ++ s ∧ mid.length = p - c - 1 := ⟨r.take (p - c - 1), r.drop (p - c - 1), (List.take_append_drop _ r).symm, by
      rw [e1] at hp; simp at hp; simp; omega⟩
    cases s with
    | nil => rw [e1, e3, List.append_nil] at hp; simp at hp; omega
    | cons y post =>
      subst e3
      subst e1
      have h1 : (pre ++ x :: (mid ++ y :: post))[c]'(by simp; omega) = x := by
        rw [List.getElem_append_right (by omega)]; simp [e2]
      have h2 : (pre ++ x :: (mid ++ y :: post))[p] = y := by
        rw [List.getElem_append_right (by omega)]
        simp only [e2]
        obtain ⟨d, hd⟩ : ∃ d, p - c = d + 1 := ⟨p - c - 1, by omega⟩
        have e5 : mid.length = d := by omega
        simp only [hd, List.getElem_cons_succ]
        rw [List.getElem_append_right (by omega)]
        simp [e5]
      rw [h1, h2, List.set_append_right _ _ (by omega), e2, Nat.sub_self, List.set_cons_zero, List.set_append_right _ _ (by omega), e2]
      obtain ⟨d, hd⟩ : ∃ d, p - c = d + 1 := ⟨p - c - 1, by omega⟩
      have e5 : mid.length = d := by omega
      rw [hd, List.set_cons_succ, List.set_append_right _ _ (by omega), e5, Nat.sub_self, List.set_cons_zero]
      have := dt_exch cs pre mid post y x
      rw [this]
theorem dt_swp {cs : List Nat} {O : Nat → Vc} {n c p : Nat} (hcp : c ≤ p) (hp : p < n) : dt cs ((List.range n).map fun k => O (swp p c k)) = (if p = c then 1 else -1) * dt cs ((List.range n).map O) := by
  by_cases h : p = c
  · subst h
    rw [if_pos rfl, Int.one_mul]
    have : (fun k => O (swp p p k)) = O := funext fun k => by
      unfold swp
      by_cases hk : k = p
      · rw [if_pos hk, hk]
      · rw [if_neg hk, if_neg hk]
    rw [this]
  · rw [if_neg h]
    have hl : ((List.range n).map O).length = n := by simp
    have := dt_set (cs := cs) (l := (List.range n).map O) (c := c) (p := p) (by omega) (by omega)
    rw [show -1 * dt cs ((List.range n).map O) = -dt cs ((List.range n).map O) by omega, ← this]
    congr 1
    refine List.ext_getElem (by simp) fun k h1 h2 => ?_
    simp only [List.getElem_map, List.getElem_range, List.getElem_set]
    unfold swp
    by_cases hkp : k = p
    · subst hkp
      simp
    · have hpk : ¬ p = k := fun e => hkp e.symm
      by_cases hkc : k = c
      · subst hkc
        simp [hkp, hpk]
      · have hck : ¬ c = k := fun e => hkc e.symm
        simp [hkp, hpk, hkc, hck]

theorem perm_of {n : Nat} {σ : Nat → Nat} (h : ∀ k, k < n → σ k < n) (hi : ∀ a b, a < n → b < n → σ a = σ b → a = b) : ((List.range n).map σ).Perm (List.range n) := by
  have hnd : ((List.range n).map σ).Nodup := by
    rw [List.Nodup, List.pairwise_map]
    refine List.Pairwise.imp_of_mem ?_ (List.nodup_range (n := n))
    intro a b ha hb hab e
    exact hab (hi a b (List.mem_range.1 ha) (List.mem_range.1 hb) e)
  have hsub : ∀ x ∈ (List.range n).map σ, x ∈ List.range n := fun x hx => by
    obtain ⟨k, hk, rfl⟩ := List.mem_map.1 hx
    exact List.mem_range.2 (h k (List.mem_range.1 hk))
  have hall := sub_eq hnd hsub (by simp)
  rw [List.perm_iff_count]
  intro a
  rw [hnd.count, (List.nodup_range (n := n)).count]
  by_cases ha : a ∈ List.range n
  · rw [if_pos ha, if_pos (hall a ha)]
  · rw [if_neg ha, if_neg fun hx => ha (hsub a hx)]
section
variable {W : List (List Int)} {n : Nat}

theorem det_ech (hl : W.length = n) (hc : ∀ z ∈ W, z.length = n) :
    ∃ (V : Nat → Vc) (O : Nat → Vc), EI V O n (echW W n).2 ∧ (∀ k, k < n → ∃ j, j < n ∧ O k = rw0 W j) ∧ (∀ k, (echW W n).2.length ≤ k → k < n → ∀ j, V k j = 0) ∧ (∀ cs, dt cs ((List.range n).map O) = dt cs ((List.range n).map (rw0 W)) ∨ dt cs ((List.range n).map O) = -dt cs ((List.range n).map (rw0 W))) := by
  subst hl
  obtain ⟨O, σ, hE, hO, hinj⟩ := (EP.all hc W.length).st
  have hW := EW.all hc W.length
  refine ⟨_, O, hE, fun k hk => ⟨σ k, hO k hk⟩, fun k h1 h2 j => ?_, fun cs => ?_⟩
  · by_cases hj : j < W.length
    · exact hW.low k h1 h2 j hj
    · exact vc_ge (by rw [hW.row _ h2]; omega)
  · have hp := (perm_of (fun k hk => (hO k hk).1) hinj).map (rw0 W)
    have e : ((List.range W.length).map σ).map (rw0 W) = (List.range W.length).map O := by
      rw [List.map_map]
      exact List.map_congr_left fun k hk => ((hO k (List.mem_range.1 hk)).2).symm
    rw [e] at hp
    exact dt_perm cs hp []
theorem det_low (hl : W.length = n) (hc : ∀ z ∈ W, z.length = n) (hr : (echW W n).2.length < n) : detZ W n = 0 := by
  obtain ⟨V, O, hE, _, hz, hs⟩ := det_ech hl hc
  obtain ⟨⟨q, μ, m, hq, hμ, hm, h1⟩, _⟩ := hE.non _ (Nat.le_refl _) hr
  have hd : dt (List.range n) ((List.range n).map O) = 0 := by
    have e : (List.range n).map O = (List.range (echW W n).2.length).map O ++ O (echW W n).2.length :: ((List.range n).drop ((echW W n).2.length + 1)).map O := by
      conv => lhs; rw [← List.take_append_drop (echW W n).2.length (List.range n)]
      rw [List.map_append, List.drop_eq_getElem_cons (by simpa using hr), List.map_cons, List.take_range]
      simp [Nat.min_eq_left (Nat.le_of_lt hr)]
    have h2 := dt_put (cs := List.range n) (pre := (List.range (echW W n).2.length).map O) (post := ((List.range n).drop ((echW W n).2.length + 1)).map O) (x := O (echW W n).2.length) (w := fun _ => 0) (a := μ) (b := 1) (m := m) (n := []) fun c _ => by
      have := h1 c
      rw [hz _ (Nat.le_refl _) hr c] at this
      rw [lcs_nil]; omega
    rw [← e, dt_zero (fun _ _ => rfl)] at h2
    rw [Int.mul_zero] at h2
    exact (Int.mul_eq_zero.1 h2.symm).resolve_left hμ
  unfold detZ
  rcases hs (List.range n) with h | h <;> omega
theorem inc_id {C : List Nat} (hlen : C.length = n) (hb : ∀ p ∈ C, p < n) (inc : ∀ i j (hi : i < C.length) (hj : j < C.length), i < j → C[i] < C[j]) : C = List.range n := by
  have h1 : ∀ i (hi : i < C.length), i ≤ C[i] := by
    intro i
    induction i with
    | zero => intro _; omega
    | succ i ih =>
      intro hi
      have := ih (by omega)
      have := inc i (i + 1) (by omega) hi (by omega)
      omega
  have h2 : ∀ d i (hi : i < C.length), i + d + 1 = n → C[i] ≤ i := by
    intro d
    induction d with
    | zero =>
      intro i hi e
      have := hb C[i] (List.getElem_mem hi); omega
    | succ d ih =>
      intro i hi e
      have := ih (i + 1) (by omega) (by omega)
      have := inc i (i + 1) hi (by omega) (by omega)
      omega
  refine List.ext_getElem (by simp [hlen]) fun i hi hi' => ?_
  have := h1 i hi
  have := h2 (n - 1 - i) i hi (by omega)
  simp; omega
theorem ech_piv (rows : List (List Int)) (c : Nat) : (∀ p ∈ (echW rows c).2, p < c) ∧ ∀ i j (hi : i < (echW rows c).2.length) (hj : j < (echW rows c).2.length), i < j → (echW rows c).2[i] < (echW rows c).2[j] := echW_inc rows c
theorem det_full (hl : W.length = n) (hc : ∀ z ∈ W, z.length = n) (hr : (echW W n).2.length = n) : detZ W n ≠ 0 := by
  obtain ⟨V, O, hE, _, hz, hs⟩ := det_ech hl hc
  have hid := inc_id hr (ech_piv W n).1 (ech_piv W n).2
  have hd := hE.det
  rw [hr, hid] at hd
  unfold detZ
  rcases hs (List.range n) with h | h <;> omega
theorem ech_le (hl : W.length = n) (hc : ∀ z ∈ W, z.length = n) : (echW W n).2.length ≤ n := by
  obtain ⟨V, O, hE, _⟩ := det_ech hl hc
  exact hE.tle
theorem det_rank (hl : W.length = n) (hc : ∀ z ∈ W, z.length = n) : detZ W n = 0 ↔ (echW W n).2.length < n := by
  have := ech_le hl hc
  constructor
  · intro h
    apply Classical.byContradiction
    intro hn
    exact det_full hl hc (by omega) h
  · exact det_low hl hc
theorem NN_lcs (O : Nat → Vc) (c k : Nat) : ∀ (m : List Int) (R : List Vc), (∀ r ∈ R, NN O c r k = 0) → NN O c (lcs m R) k = 0
  | [], R, _ => by
    have := NN_lin O c (u := fun _ => 0) (v := fun _ => 0) (w := lcs [] R) (a := 0) (b := 0) (g := 1) (fun j => by rw [lcs_nil]; omega) k
    omega
  | a :: m, [], _ => by
    have := NN_lin O c (u := fun _ => 0) (v := fun _ => 0) (w := lcs (a :: m) []) (a := 0) (b := 0) (g := 1) (fun j => by rw [lcs_nil_r]; omega) k
    omega
  | a :: m, r :: R, h => by
    have ih := NN_lcs O c k m R fun x hx => h x (List.mem_cons_of_mem _ hx)
    have := NN_lin O c (u := r) (v := lcs m R) (w := lcs (a :: m) (r :: R)) (a := a) (b := 1) (g := 1) (fun j => by rw [lcs_cons]; omega) k
    rw [h r (List.mem_cons_self ..), ih] at this
    omega

theorem det_stuck (hl : W.length = n) (hc : ∀ z ∈ W, z.length = n) {O : Nat → Vc} {c : Nat} (hcn : c < n) (hD : DD O c ≠ 0) (hO : ∀ i, i < n → ∃ j, j < n ∧ rw0 W i = O j) (hz : ∀ j, j < n → NN O c (O j) c = 0) : detZ W n = 0 := by
  apply Classical.byContradiction
  intro hne
  have hr : (echW W n).2.length = n := by
    have h1 := ech_le hl hc
    have h2 := (det_rank hl hc)
    have h3 : ¬ (echW W n).2.length < n := fun h => hne (h2.2 h)
    omega
  obtain ⟨V, P, hE, hP, _, _⟩ := det_ech hl hc
  have hid := inc_id hr (ech_piv W n).1 (ech_piv W n).2
  obtain ⟨⟨q, m, hq, hm, h1⟩, h2, h3⟩ := hE.piv c (by omega)
  have hg : ∀ j (hj : j < (echW W n).2.length), (echW W n).2[j] = j := fun j hj => by
    have := List.getElem_of_eq hid hj
    rw [this]; simp
  rw [hg c (by omega)] at h3
  have hn := NN_lcs O c c m ((List.range (echW W n).2.length).map P) fun r hr2 => by
    obtain ⟨k, hk, rfl⟩ := List.mem_map.1 hr2
    have hk := List.mem_range.1 hk
    obtain ⟨j, hj, e⟩ := hP k (by omega)
    obtain ⟨j2, hj2, e2⟩ := hO j hj
    rw [e, e2]; exact hz j2 hj2
  have hl2 := NN_lin O c (u := lcs m ((List.range (echW W n).2.length).map P)) (v := fun _ => 0) (w := V c) (a := 1) (b := 0) (g := q) (fun j => by rw [h1 j]; omega) c
  rw [hn] at hl2
  have hq0 : NN O c (V c) c = 0 := by
    have : q * NN O c (V c) c = 0 := by rw [hl2]; omega
    exact (Int.mul_eq_zero.1 this).resolve_left hq
  have hu : NN O c (V c) c = V c c * DD O c := dt_u (fun k hk => by
    have hk := mem_CC.1 hk
    have := h2 k (by omega) (by omega)
    rwa [hg k (by omega)] at this) c
  rw [hu] at hq0
  rcases Int.mul_eq_zero.1 hq0 with h | h
  · exact h3 h
  · exact hD h
end

def brow (last : Int) (c : Nat) (p z : List Int) : List Int := z.mapIdx fun k x => if k ≤ c then x else (x * vc p c - vc z c * vc p k) / last
def bstep (last : Int) (c : Nat) (W : List (List Int)) : List (List Int) := W.mapIdx fun i z => if i ≤ c then z else brow last c (W.getD c []) z
def barW (W0 : List (List Int)) : Nat → Option (List (List Int) × Int × Bool)
  | 0 => some (W0, 1, false)
  | c + 1 => match barW W0 c with
    | none => none
    | some (W, last, t) => if findP W c c < W.length then some (bstep last c (swapL W c (findP W c c)), vc ((swapL W c (findP W c c)).getD c []) c, xor t (decide (findP W c c ≠ c))) else none
def barD (W0 : List (List Int)) (n : Nat) : Int := match barW W0 n with
  | none => 0
  | some (_, last, t) => if t then -last else last
theorem brow_len (last : Int) (c : Nat) (p z : List Int) : (brow last c p z).length = z.length := by simp [brow]
theorem bstep_len (last : Int) (c : Nat) (W : List (List Int)) : (bstep last c W).length = W.length := by simp [bstep]
theorem brow_vc {last : Int} {c : Nat} {p z : List Int} {k : Nat} (h : k < z.length) : vc (brow last c p z) k = if k ≤ c then vc z k else (vc z k * vc p c - vc z c * vc p k) / last := by
  rw [vc_lt (by rw [brow_len]; exact h), vc_lt h]
  simp [brow]
theorem bstep_get {last : Int} {c i : Nat} {W : List (List Int)} (h : i < W.length) : (bstep last c W).getD i [] = if i ≤ c then W.getD i [] else brow last c (W.getD c []) (W.getD i []) := by
  simp [bstep, h, List.getD_eq_getElem?_getD]

structure BI (W0 : List (List Int)) (n c : Nat) (β B : Nat) (W : List (List Int)) (last : Int) (t : Bool) : Prop where
  len : W.length = n
  row : ∀ i, i < n → (W.getD i []).length = n
  st : ∃ (O : Nat → Vc) (κ : Nat → Nat), (∀ cs, dt cs ((List.range n).map (rw0 W0)) = (if t then -1 else 1) * dt cs ((List.range n).map O)) ∧ (∀ i, i < n → ∃ j, j < n ∧ rw0 W0 i = O j) ∧
    last = DD O c ∧ (∀ j, j ≤ c → DD O j ≠ 0) ∧ (∀ i, c ≤ i → i < n → ∀ k, c ≤ k → k < n → vc (W.getD i []) k = NN O c (O i) k) ∧
    (∀ k, k < n → ∀ j, (O k j).natAbs ≤ β ^ κ k) ∧ sz κ n ≤ B
section
variable {W0 W : List (List Int)} {n c β B : Nat} {last : Int} {t : Bool}
theorem BI.start {κ : Nat → Nat} (hl : W0.length = n) (hc : ∀ i, i < n → (W0.getD i []).length = n) (hk : ∀ k, k < n → ∀ j, (rw0 W0 k j).natAbs ≤ β ^ κ k) (hB : sz κ n ≤ B) : BI W0 n 0 β B W0 1 false :=
  ⟨hl, hc, rw0 W0, κ, fun cs => by simp, fun i hi => ⟨i, hi, rfl⟩, rfl, fun j hj => by
    obtain rfl : j = 0 := by omega
    rw [DD_zero]; decide, fun i _ hi k _ hk => (NN_zero _ _ _).symm, hk, hB⟩
theorem BI.step (h : BI W0 n c β B W last t) (hcn : c < n) (hf : findP W c c < W.length) : BI W0 n (c + 1) β B (bstep last c (swapL W c (findP W c c))) (vc ((swapL W c (findP W c c)).getD c []) c) (xor t (decide (findP W c c ≠ c))) := by
  obtain ⟨O, κ, hs, hO, hla, hnz, hent, hsz, hB⟩ := h.st
  obtain ⟨hcp, hp0⟩ := findP_spec hf
  have hlen := h.len
  rw [hlen] at hf
  generalize findP W c c = p at *
  have hsl : (swapL W c p).length = n := by rw [swapL_len]; exact hlen
  have hsg : ∀ k, k < n → (swapL W c p).getD k [] = W.getD (swp p c k) [] := fun k hk => swapL_get (by omega) (by omega) (by omega)
  have hO' : ∀ i, i < c → O i = O (swp p c i) := fun i hi => by rw [swp_lt hcp hi]
  have hDc : ∀ j, j ≤ c → DD (fun k => O (swp p c k)) j = DD O j := fun j hj => (DD_congr fun i hi => hO' i (by omega)).symm
  have hNc : ∀ x, NN (fun k => O (swp p c k)) c x = NN O c x := fun x => (NN_congr fun i hi => hO' i hi) x ▸ rfl
  have hent' : ∀ i, c ≤ i → i < n → ∀ k, c ≤ k → k < n → vc ((swapL W c p).getD i []) k = NN (fun k => O (swp p c k)) c (O (swp p c i)) k := fun i hi hin k hk hkn => by
    rw [hsg i hin, hNc]
    exact hent _ (swp_ge hcp hi) (swp_bd hf hcn hin) k hk hkn
  have hpc : vc ((swapL W c p).getD c []) c ≠ 0 := by rw [hsg c hcn, swp_t]; exact hp0
  have hDD : DD (fun k => O (swp p c k)) (c + 1) = vc ((swapL W c p).getD c []) c := by
    rw [DD_succ, hent' c (Nat.le_refl _) hcn c (Nat.le_refl _) hcn]
  have hnz' : ∀ j, j ≤ c → DD (fun k => O (swp p c k)) j ≠ 0 := fun j hj => by rw [hDc j hj]; exact hnz j hj
  refine ⟨by rw [bstep_len]; exact hsl, fun i hi => ?_, fun k => O (swp p c k), fun k => κ (swp p c k), fun cs => ?_, fun i hi => ?_, hDD.symm, fun j hj => ?_, fun i hi hin k hk hkn => ?_, fun k hk j => hsz _ (swp_bd hf hcn hk) j, by rw [sz_swp hf hcn]; exact hB⟩
  · rw [bstep_get (by omega)]
    have h1 := h.row _ (swp_bd hf hcn hi)
    split
    · rw [hsg i hi]; exact h1
    · rw [brow_len, hsg i hi]; exact h1
  · rw [hs cs, dt_swp hcp hf]
    by_cases hpe : p = c
    · cases t <;> simp [hpe]
    · cases t <;> simp [hpe]
  · obtain ⟨j, hj, e⟩ := hO i hi
    refine ⟨swp p c j, swp_bd hf hcn hj, ?_⟩
    simp only [swp_swp]; exact e
  · by_cases hjc : j ≤ c
    · exact hnz' j hjc
    · rw [show j = c + 1 by omega, hDD]; exact hpc
  · have hrl := h.row _ (swp_bd hf hcn hin)
    rw [bstep_get (by omega), if_neg (by omega), brow_vc (by rw [hsg i hin, hrl]; exact hkn), if_neg (by omega)]
    rw [hent' i (by omega) hin k (by omega) hkn, hent' i (by omega) hin c (Nat.le_refl _) hcn, hent' c (Nat.le_refl _) hcn c (Nat.le_refl _) hcn, hent' c (Nat.le_refl _) hcn k (by omega) hkn]
    rw [← NN_step hnz', hDc c (Nat.le_refl _), hla]
    exact Int.mul_ediv_cancel_left _ (hnz c (Nat.le_refl _))
theorem BI.z (h : BI W0 n c β B W last t) (hn : n + 1 ≤ β) (hβ : 1 ≤ β) {i k : Nat} (hi : c ≤ i) (hin : i < n) (hk : c ≤ k) (hkn : k < n) : (vc (W.getD i []) k).natAbs ≤ β ^ B := by
  obtain ⟨O, κ, hs, hO, hla, hnz, hent, hsz, hB⟩ := h.st
  rw [hent i hi hin k hk hkn]
  have h1 := dt_bound (k :: CC c) (O i :: RRo O c) (κ i :: (CC c).map κ) ⟨fun j _ => hsz i hin j, (Bd_range (cs := k :: CC c) (CC c) fun r hr => hsz r (by have := mem_CC.1 hr; omega))⟩ (by rw [List.length_cons, RRo_len]; omega)
  refine Nat.le_trans h1 (Nat.pow_le_pow_right hβ ?_)
  have h2 : wsum ((CC c).map κ) = sz κ c := by
    unfold sz CC wsum
    rw [List.map_reverse, List.sum_reverse, List.length_reverse]
  rw [wsum_cons, h2]
  have h3 : ∀ m, c ≤ i → i < m → κ i + 1 + sz κ c ≤ sz κ m := by
    intro m hci him
    have a1 := sz_succ κ i
    have a2 := sz_mono (κ := κ) (show i + 1 ≤ m from him)
    have a3 := sz_mono (κ := κ) hci
    omega
  have := h3 n hi hin
  omega
theorem BI.zl (h : BI W0 n c β B W last t) (hc : c ≤ n) (hn : n + 1 ≤ β) (hβ : 1 ≤ β) : last.natAbs ≤ β ^ B ∧ last ≠ 0 := by
  obtain ⟨O, κ, hs, hO, hla, hnz, hent, hsz, hB⟩ := h.st
  refine ⟨?_, by rw [hla]; exact hnz c (Nat.le_refl _)⟩
  rw [hla]
  have h1 := dt_bound (CC c) (RRo O c) ((CC c).map κ) (Bd_range (CC c) fun r hr => hsz r (by have := mem_CC.1 hr; omega)) (by rw [RRo_len]; omega)
  refine Nat.le_trans h1 (Nat.pow_le_pow_right hβ ?_)
  have h2 : wsum ((CC c).map κ) = sz κ c := by
    unfold sz CC wsum
    rw [List.map_reverse, List.sum_reverse, List.length_reverse]
  rw [h2]
  exact Nat.le_trans (sz_mono hc) hB

theorem bar_all {κ : Nat → Nat} (hl : W0.length = n) (hc : ∀ i, i < n → (W0.getD i []).length = n) (hk : ∀ k, k < n → ∀ j, (rw0 W0 k j).natAbs ≤ β ^ κ k) (hB : sz κ n ≤ B) : ∀ c, c ≤ n → (∀ W last t, barW W0 c = some (W, last, t) → BI W0 n c β B W last t) ∧ (barW W0 c = none → detZ W0 n = 0)
  | 0, _ => ⟨fun W last t h => by
    simp only [barW, Option.some.injEq, Prod.mk.injEq] at h
    obtain ⟨rfl, rfl, rfl⟩ := h
    exact .start hl hc hk hB, fun h => by simp [barW] at h⟩
  | c + 1, hcn => by
    obtain ⟨ih1, ih2⟩ := bar_all hl hc hk hB c (by omega)
    rw [barW]
    cases hb : barW W0 c with
    | none => exact ⟨fun W last t h => by simp at h, fun _ => ih2 hb⟩
    | some s =>
      obtain ⟨W1, last1, t1⟩ := s
      have hI := ih1 _ _ _ hb
      simp only []
      by_cases hf : findP W1 c c < W1.length
      · rw [if_pos hf]
        refine ⟨fun W last t h => ?_, fun h => by simp at h⟩
        simp only [Option.some.injEq, Prod.mk.injEq] at h
        obtain ⟨rfl, rfl, rfl⟩ := h
        exact hI.step (by omega) hf
      · rw [if_neg hf]
        refine ⟨fun W last t h => by simp at h, fun _ => ?_⟩
        obtain ⟨O, κ', hs, hO, hla, hnz, hent, hsz, hB'⟩ := hI.st
        have hfe : findP W1 c c = W1.length := by have := findP_le (W := W1) (c := c) (r := c); omega
        have hz := findP_none hfe
        refine det_stuck hl (fun z hzm => ?_) (show c < n by omega) (hnz c (Nat.le_refl _)) hO fun j hj => ?_
        · obtain ⟨i, hi, rfl⟩ := mem_getD (d := []) hzm
          exact hc i (by omega)
        · by_cases hjc : c ≤ j
          · rw [← hent j hjc hj c (Nat.le_refl _) (by omega)]
            exact hz j hjc (by rw [hI.len]; exact hj)
          · have := dt_mem (cs := c :: CC c) (x := O j) (pre := []) (post := RRo O c) (.inr (List.mem_map.2 ⟨j, mem_CC.2 (by omega), rfl⟩))
            simpa [NN, nmr] using this
theorem barD_det {κ : Nat → Nat} (hl : W0.length = n) (hc : ∀ i, i < n → (W0.getD i []).length = n) (hk : ∀ k, k < n → ∀ j, (rw0 W0 k j).natAbs ≤ β ^ κ k) (hB : sz κ n ≤ B) : barD W0 n = detZ W0 n := by
  obtain ⟨h1, h2⟩ := bar_all hl hc hk hB n (Nat.le_refl _)
  unfold barD
  cases hb : barW W0 n with
  | none => exact (h2 hb).symm
  | some s =>
    obtain ⟨W, last, t⟩ := s
    obtain ⟨O, κ', hs, hO, hla, hnz, hent, hsz, hB'⟩ := (h1 _ _ _ hb).st
    simp only []
    unfold detZ
    rw [hs, ← DD_range, ← hla]
    cases t <;> simp
end
end Go.Proofs.Ytfjdfnlkobeehaa
end

section
set_option maxRecDepth 100000
set_option linter.unusedVariables false
set_option linter.unusedSimpArgs false
namespace Go.Proofs.Ytfjdfnlkobeehaa
theorem dtx_map {F G : List Vc → Int} {h : Vc → Vc} {c c' : Nat} (hc : ∀ v, h v c = v c') (hF : ∀ q, F (q.map h) = G q) : ∀ (l p : List Vc), dtx F c (p.map h) (l.map h) = dtx G c' p l
  | [], p => rfl
  | x :: l, p => by
    have e1 := hF (p ++ l)
    have e2 := dtx_map hc hF l (p ++ [x])
    rw [List.map_append] at e1 e2
    rw [List.map_cons, dtx, dtx, e1, hc, ← e2]; rfl
theorem dt_map (g : Nat → Nat) : ∀ (cs : List Nat) (rs : List Vc), dt cs (rs.map fun v k => v (g k)) = dt (cs.map g) rs
  | [], [] => rfl
  | [], _ :: _ => rfl
  | c :: cs, rs => by
    rw [List.map_cons, dt_cons, dt_cons]
    exact dtx_map (h := fun v k => v (g k)) (c := c) (c' := g c) (fun v => rfl) (fun q => dt_map g cs q) rs []

def minorW (W : List (List Int)) (r : Nat) : List (List Int) := (W.eraseIdx r).map List.tail
theorem vc_tail (z : List Int) (k : Nat) : vc z.tail k = vc z (k + 1) := by cases z <;> simp [vc]

def expW (W : List (List Int)) (n : Nat) : Int := dt (List.range n) (W.map vc)
theorem expW_minor {W : List (List Int)} {n r : Nat} : expW (minorW W r) n = dt ((List.range n).map (· + 1)) ((W.map vc).eraseIdx r) := by
  unfold expW minorW
  rw [← dt_map]
  congr 1
  rw [List.map_map]
  have e : (vc ∘ List.tail) = fun z k => vc z (k + 1) := by
    funext z k; exact vc_tail z k
  rw [e]
  have e2 : ∀ (l : List (List Int)) (r : Nat), (l.eraseIdx r).map (fun z k => vc z (k + 1)) = ((l.map vc).eraseIdx r).map fun v k => v (k + 1) := by
    intro l
    induction l with
    | nil => intro r; rfl
    | cons a l ih =>
      intro r
      cases r with
      | zero => simp
      | succ r => simp [ih r]
  exact e2 W r
theorem dtx_at {f : List Vc → Int} {c : Nat} {rs : List Vc} {i : Nat} (h : i < rs.length) : dtx f c (rs.take i) (rs.drop i) = rs[i] c * f (rs.eraseIdx i) - dtx f c (rs.take (i + 1)) (rs.drop (i + 1)) := by
  rw [List.drop_eq_getElem_cons h, dtx, List.take_succ_eq_append_getElem h, List.eraseIdx_eq_take_drop_succ]
theorem expW_succ {W : List (List Int)} {n : Nat} : expW W (n + 1) = dtx (dt ((List.range n).map (· + 1))) 0 [] (W.map vc) := by
  unfold expW
  rw [List.range_succ_eq_map, dt_cons]
theorem expW_det {W : List (List Int)} {n : Nat} (h : W.length = n) : expW W n = detZ W n := by
  unfold expW detZ
  congr 1
  refine List.ext_getElem (by simp [h]) fun i h1 h2 => ?_
  have hi : i < W.length := by simpa using h1
  simp [rw0, hi]
theorem minorW_take {W : List (List Int)} {i r : Nat} (hi : i < W.length) (hr : i ≠ r) : minorW (W.take (i + 1)) r = minorW (W.take i) r ++ [(W.getD i []).tail] := by
  unfold minorW
  rw [getD_take (d := []) hi]
  have hl : (W.take i).length = i := by rw [List.length_take]; omega
  by_cases h : r < i
  · rw [List.eraseIdx_append_of_lt_length (by omega), List.map_append]; rfl
  · rw [List.eraseIdx_of_length_le (by simp; omega), List.eraseIdx_of_length_le (by omega), List.map_append]; rfl
theorem minorW_skip {W : List (List Int)} {i : Nat} (hi : i < W.length) : minorW (W.take (i + 1)) i = minorW (W.take i) i := by
  unfold minorW
  rw [getD_take (d := []) hi]
  have hl : (W.take i).length = i := by rw [List.length_take]; omega
  rw [List.eraseIdx_append_of_length_le (by omega), hl, Nat.sub_self, List.eraseIdx_of_length_le (l := W.take i) (by omega)]
  simp
end Go.Proofs.Ytfjdfnlkobeehaa
namespace Go.Proofs.Ytfjdfnlkobeehaa.Ref
open Ytfjdfnlkobeehaa (SWc SW WX WC WV vals vals_len SM lenM Rn vc vc_lt SW_def SM_def cZ get_SM' getD_take getD_mem getD_vals wrongM minorW minorW_take minorW_skip expW expW_minor expW_succ dtx_at dtx dt sgn)
theorem SNc_tail (z : List Int) : (SNc z).drop 2 = SNc z.tail := by cases z <;> rfl
section
variable {W : List (List Int)} {k : Nat}
set_option maxHeartbeats 4000000 in
theorem minor_z {r : Nat} (hW : ∀ z ∈ W, 1 ≤ z.length ∧ z.length ≤ 1000000) (hlen : W.length ≤ 1000000) : PT Try.prog 107 [SNM W, .val (.int .i64 r)] (isV (SNM (minorW W r))) := by
  refine PCalls.enter (n := 25) (rs := [.tmp 4]) (tb := []) Try.func107 rfl rfl rfl (by kernel_rfl) (by kernel_rfl) (by simp) fun c hc ht => ?_
  simp -implicitDefEqProofs (disch := omega) only [go_sem, ht]
  refine LW.ghost (Gh.nilW 5 1 (by simp -implicitDefEqProofs (disch := omega) only [go_sem, ht])) ?_
  refine LW.loopW hc ht (by kernel_rfl) (fun t => t.sl 0 = .sl W.length (W.map SN) ∧ t.sl 1 = .val (.int .i64 r) ∧ ∃ i : Nat, i ≤ W.length ∧ t.sl 6 = .val (.int .i64 i) ∧ ∃ (id cap : Nat) (rest : List Value), t.sl 5 = .ref id 0 (minorW (W.take i) r).length cap 1 ∧ t.H id = some ((minorW (W.take i) r).map SN ++ rest.map .val) ∧ (minorW (W.take i) r).length + rest.length = cap ∧ id < t.nx)
    (fun t => match t.sl 6 with | .val (.int _ k) => W.length - k.toNat | _ => 0) ?_ ?_
  · simp -implicitDefEqProofs (disch := omega) only [go_sem, ht]
    exact ⟨0, Nat.zero_le _, rfl, _, 0, [], rfl, upd_self _ _ _, rfl, by omega⟩
  · rintro t ⟨h0, h1, i, hi, h6, id, cap, rest, h5, hH, hcap, hid⟩
    by_cases hil : i = W.length
    · subst hil
      rw [List.take_length] at hH h5 hcap
      generalize minorW W r = V at *
      have htk : List.take V.length (V.map SN ++ rest.map .val) = V.map SN := by
        rw [List.take_append_of_le_length (by simp), List.take_of_length_le (by simp)]
      have hml2 : (V.map SN).length = V.length := by simp
      have hle : V.length ≤ (V.map SN).length + rest.length := by omega
      have hfl := Ytfjdfnlkobeehaa.frzL_flat (fun _ => true) t.H 1 (SNM_flat V)
      have hfl0 := SNM_flat V
      simp -implicitDefEqProofs (disch := omega) only [go_sem, ht, h0, h1, h5, h6]
      (refine end_treeW 2 ?_; simp -implicitDefEqProofs (disch := omega) only [go_sem, ht, hH, htk, hfl, hfl0, hle])
      omega
    · have hlt : i < W.length := by omega
      have hgi := get_SNM' hlt
      obtain ⟨hz1, hz2⟩ := hW _ (getD_mem (d := []) hlt)
      by_cases hir : i = r
      · subst hir
        have hs := minorW_skip hlt
        simp -implicitDefEqProofs (disch := omega) only [go_sem, ht, h0, h1, h5, h6]
        exact ⟨⟨i + 1, by omega, rfl, id, cap, rest, by rw [hs], by rw [hs]; exact hH, by rw [hs]; exact hcap, hid⟩, by omega⟩
      · have hs := minorW_take hlt hir
        have hsl := SNc_tail (W.getD i [])
        have htl : (W.getD i []).tail.length = (W.getD i []).length - 1 := List.length_tail
        have hne' : ¬ ((i : Nat) : Int) = (r : Nat) := by omega
        have htk2 : ((SNc (W.getD i [])).drop 2).take (((W.getD i []).length - 1) * 2) = SNc (W.getD i []).tail := by
          rw [hsl, ← htl, List.take_of_length_le (by rw [SNc_len]; omega)]
        have hst : (minorW (W.take i) r).map SN ++ [.sl ((W.getD i []).length - 1) (SNc (W.getD i []).tail)] = (minorW (W.take (i + 1)) r).map SN := by
          rw [hs, List.map_append, ← htl]; rfl
        have hln : (minorW (W.take (i + 1)) r).length = (minorW (W.take i) r).length + 1 := by rw [hs]; simp
        have hvb : (minorW (W.take i) r).length ≤ i := by
          unfold Ytfjdfnlkobeehaa.minorW
          rw [List.length_map]
          have h1 := List.length_eraseIdx_le (W.take i) r
          have h2 : (W.take i).length = i := by rw [List.length_take]; omega
          omega
        obtain ⟨V1, eV1⟩ : ∃ V, minorW (W.take (i + 1)) r = V := ⟨_, rfl⟩
        rw [eV1] at hs hst hln
        generalize minorW (W.take i) r = V at *
        have hVl : (V.map SN).length = V.length := by simp
        generalize W.getD i [] = z at *
        simp -implicitDefEqProofs (disch := omega) only [go_sem, ht, h0, h1, h5, h6, hgi, hne', hir, htk2]
        have hne : id ≠ t.nx := by omega
        (refine append_ownX (by refine ⟨?_, ?_, ?_, ?_, ?_, ?_, ?_, ?_⟩ <;> (simp -implicitDefEqProofs (disch := omega) only [srcP_ref, srcP_sl, srcP_nil, Option.isSome_some, hH, go_sem, ht] <;> rfl)) (by first | omega | (simp <;> omega)) (by first | assumption | (simp <;> omega)) (by first | rfl | simp) (by first | omega | (simp <;> omega)) ?_; intro id1 cap1 rest1 H1 nx1 hH1 hcap1 hid1 hnx1 hfr1 hfs1; (try simp only [put_nx, withH_nx, put_H, withH_H] at hid1 hnx1 hfr1 hfs1); (try simp only [app_U, ← List.map_append] at hH1))
        rw [hst] at hH1
        simp -implicitDefEqProofs (disch := omega) only [go_sem, ht, h0, h1, h5, h6]
        exact ⟨⟨i + 1, by omega, rfl, id1, cap1, rest1, by rw [eV1, hln], by rw [eV1]; exact hH1, by rw [eV1]; omega, by omega⟩, by omega⟩
theorem Z0 {k : Nat} : Z k 0 := Nat.pow_pos (by decide)
theorem sgn_mod (i : Nat) : Ytfjdfnlkobeehaa.sgn i = if i % 2 = 1 then -1 else 1 := by
  induction i with
  | zero => rfl
  | succ i ih =>
    rw [Ytfjdfnlkobeehaa.sgn_succ, ih]
    by_cases h : i % 2 = 1
    · rw [if_pos h, if_neg (by omega)]; rfl
    · rw [if_neg h, if_pos (by omega)]
theorem rem_two {P : Program} (t : TypeId) (i : Nat) : binP P .rem t (.val (.int .i64 (i : Nat))) (.val (.int .i64 2)) = some (.val (.int .i64 ((i % 2 : Nat) : Int))) := by
  simp [binP, binV, binI]
  exact Int.tmod_eq_emod_of_nonneg (by omega)
theorem Zsgn {i : Nat} {x : Int} {e : Nat} (h : Z e x) : Z e (Ytfjdfnlkobeehaa.sgn i * x) := by
  unfold Z at *
  rw [Int.natAbs_mul, Ytfjdfnlkobeehaa.sgn_abs, Nat.one_mul]; exact h
theorem dtx_z {f : List Vc → Int} {c e : Nat} (hf : ∀ q : List Vc, q.length ≤ 5 → (∀ v ∈ q, ∀ j, Z k (v j)) → Z e (f q)) : ∀ (l p : List Vc), p.length + l.length ≤ 5 → (∀ v ∈ p, ∀ j, Z k (v j)) → (∀ v ∈ l, ∀ j, Z k (v j)) → Z (k + e + l.length) (dtx f c p l)
  | [], p, _, _, _ => by
    rw [Ytfjdfnlkobeehaa.dtx]; exact Z0
  | x :: l, p, h, hp, hl => by
    have hx := hl x (List.mem_cons_self ..)
    have hl' : ∀ v ∈ l, ∀ j, Z k (v j) := fun v hv => hl v (List.mem_cons_of_mem _ hv)
    rw [List.length_cons] at h
    have h1 := dtx_z (c := c) hf l (p ++ [x]) (by simp; omega) (fun v hv => by
      rcases List.mem_append.1 hv with hv | hv
      · exact hp v hv
      · have : v = x := by simpa using hv
        rw [this]; exact hx) hl'
    have h2 := hf (p ++ l) (by simp; omega) (fun v hv => by
      rcases List.mem_append.1 hv with hv | hv
      · exact hp v hv
      · exact hl' v hv)
    rw [Ytfjdfnlkobeehaa.dtx, List.length_cons]
    exact (((hx c).mul h2).mono (show k + e ≤ k + e + l.length by omega)).sub h1
theorem dt_z : ∀ (cs : List Nat) (q : List Vc), q.length ≤ 5 → (∀ v ∈ q, ∀ j, Z k (v j)) → Z (cs.length * (k + 5) + 1) (dt cs q)
  | [], [], _, _ => by rw [dt]; exact (Ytfjdfnlkobeehaa.Z2 (by decide)).mono (by omega)
  | [], _ :: _, _, _ => by rw [dt]; exact Z0
  | c :: cs, q, h, hq => by
    rw [Ytfjdfnlkobeehaa.dt_cons]
    have := dtx_z (c := c) (fun q h1 h2 => dt_z cs q h1 h2) q [] (by simpa using h) (by simp) hq
    exact this.mono (by rw [List.length_cons, Nat.succ_mul]; omega)
set_option maxHeartbeats 8000000 in
theorem expanded_z (hk : k ≤ 10000) : ∀ (n : Nat) (W : List (List Int)), W.length = n → (∀ z ∈ W, z.length = n ∧ ∀ x ∈ z, Z k x) → n ≤ 4 → PT Try.prog 71 [SNM W] (isV (NZ (expW W n)))
  | 0, W, hl, _, _ => by
    obtain rfl := List.eq_nil_of_length_eq_zero hl
    have h1 := int_z (v := 1) (by omega) (by omega)
    rw [show expW [] 0 = 1 from rfl]
    refine PCalls.enter (n := 37) (rs := [.cell 2 103]) (tb := [(7, [(0, []), (1, []), (2, []), (3, []), (4, []), (5, []), (6, []), (7, []), (8, [0, 1, 2, 3, 4, 5]), (9, [0, 1, 2, 3, 4, 5]), (10, []), (11, [0, 1, 2, 3, 4, 5, 6, 7]), (12, [])]), (1000007, [(0, []), (0, []), (3, []), (7, []), (15, []), (31, []), (0, []), (0, []), (192, []), (448, []), (1023, []), (0, []), (4095, [])])]) Try.func71 rfl rfl rfl (by kernel_rfl) (by kernel_rfl) (by simp) fun c hc ht => ?_
    simp -implicitDefEqProofs (disch := omega) only [go_sem, ht]
    (refine pCall_vw (by refine ⟨⟨?_, ?_⟩, ?_, ?_⟩; rotate_left 2; (first | (right; rintro r rfl; rfl) | left); all_goals ((try simp -implicitDefEqProofs (disch := omega) only [go_sem, ht]) <;> rfl)) (h1) ?_; rintro _ nx - rfl hnx; simp -implicitDefEqProofs (disch := omega) only [go_sem, ht])
    (refine end_treeM 2 ?_; simp -implicitDefEqProofs (disch := omega) only [go_sem, ht, upd_self])
  | n + 1, W, hl, hW, hn => by
    have hex := expW_succ (W := W) (n := n)
    have hfz : ∀ q : List Vc, q.length ≤ 5 → (∀ v ∈ q, ∀ j, Z k (v j)) → Z (n * (k + 5) + 1) (dt ((List.range n).map (· + 1)) q) := fun q h1 h2 => by
      have := dt_z ((List.range n).map (· + 1)) q h1 h2
      simpa using this
    have hWz : ∀ v ∈ W.map vc, ∀ j, Z k (v j) := fun v hv j => by
      obtain ⟨z, hz, rfl⟩ := List.mem_map.1 hv
      exact Ytfjdfnlkobeehaa.vc_z (hW z hz).2 j
    have hdz : ∀ i, Z (k + (n * (k + 5) + 1) + 5) (dtx (dt ((List.range n).map (· + 1))) 0 ((W.map vc).take i) ((W.map vc).drop i)) := fun i => by
      have h1 : ((W.map vc).drop i).length ≤ 5 := by simp; omega
      have h2 : ((W.map vc).take i).length + ((W.map vc).drop i).length ≤ 5 := by simp; omega
      exact (dtx_z hfz _ _ h2 (fun v hv => hWz v (List.mem_of_mem_take hv)) (fun v hv => hWz v (List.mem_of_mem_drop hv))).mono (by omega)
    have hd0 := hdz 0
    rw [List.take_zero, List.drop_zero, ← hex] at hd0
    have hnk : n * (k + 5) ≤ 3 * (k + 5) := Nat.mul_le_mul_right _ (by omega)
    have hat : ∀ i (h : i < n + 1), dtx (dt ((List.range n).map (· + 1))) 0 ((W.map vc).take i) ((W.map vc).drop i) = vc (W.getD i []) 0 * expW (minorW W i) n - dtx (dt ((List.range n).map (· + 1))) 0 ((W.map vc).take (i + 1)) ((W.map vc).drop (i + 1)) := fun i h => by
      rw [dtx_at (by simp; omega), expW_minor]
      simp [show i < W.length by omega]
    have hmin : ∀ i, i < n + 1 → PT Try.prog 107 [SNM W, .val (.int .i64 i)] (isV (SNM (minorW W i))) := fun i h => minor_z (fun z hz => by have := (hW z hz).1; omega) (by omega)
    have hmm : ∀ i, i < n + 1 → ∀ z ∈ minorW W i, z.length = n ∧ ∀ x ∈ z, Z k x := fun i h z hz => by
      obtain ⟨z0, hz0, rfl⟩ := List.mem_map.1 hz
      have h1 := hW z0 (List.mem_of_mem_eraseIdx hz0)
      exact ⟨by rw [List.length_tail]; omega, fun x hx => h1.2 x (List.mem_of_mem_tail hx)⟩
    have hml : ∀ i, i < n + 1 → (minorW W i).length = n := fun i h => by unfold minorW; rw [List.length_map, List.length_eraseIdx_of_lt (by omega)]; omega
    have hrec : ∀ i, i < n + 1 → PT Try.prog 71 [SNM (minorW W i)] (isV (NZ (expW (minorW W i) n))) := fun i h => expanded_z hk n _ (hml i h) (hmm i h) (by omega)
    have hez : ∀ i, i < n + 1 → Z (n * (k + 5) + 1) (expW (minorW W i) n) := fun i h => by
      rw [expW_minor]
      exact hfz _ (by simp [List.length_eraseIdx]; split <;> omega) fun v hv => hWz v (List.mem_of_mem_eraseIdx hv)
    rw [hex] at hd0 ⊢
    have hend : dtx (dt ((List.range n).map (· + 1))) 0 ((W.map vc).take (n + 1)) ((W.map vc).drop (n + 1)) = 0 := by
      rw [List.drop_of_length_le (by simp; omega)]; rfl
    have h00 : dtx (dt ((List.range n).map (· + 1))) 0 ((W.map vc).take 0) ((W.map vc).drop 0) = dtx (dt ((List.range n).map (· + 1))) 0 [] (W.map vc) := rfl
    generalize dtx (dt ((List.range n).map (· + 1))) 0 [] (W.map vc) = dv at *
    obtain ⟨g, eg⟩ : ∃ g : Nat → Int, ∀ i, g i = dtx (dt ((List.range n).map (· + 1))) 0 ((W.map vc).take i) ((W.map vc).drop i) := ⟨_, fun _ => rfl⟩
    obtain ⟨e, ee⟩ : ∃ g : Nat → Int, ∀ i, g i = expW (minorW W i) n := ⟨_, fun _ => rfl⟩
    simp only [← eg, ← ee] at hdz hat hend h00 hrec hez
    clear eg ee hfz hWz hmm hml hex
    have hWl : (W.map SN).length = n + 1 := by simpa using hl
    simp only [SNM_def W, hl] at hmin ⊢
    refine PCalls.enter (n := 37) (rs := [.cell 2 103]) (tb := [(7, [(0, []), (1, []), (2, []), (3, []), (4, []), (5, []), (6, []), (7, []), (8, [0, 1, 2, 3, 4, 5]), (9, [0, 1, 2, 3, 4, 5]), (10, []), (11, [0, 1, 2, 3, 4, 5, 6, 7]), (12, [])]), (1000007, [(0, []), (0, []), (3, []), (7, []), (15, []), (31, []), (0, []), (0, []), (192, []), (448, []), (1023, []), (0, []), (4095, [])])]) Try.func71 rfl rfl rfl (by kernel_rfl) (by kernel_rfl) (by simp) fun c hc ht => ?_
    simp -implicitDefEqProofs (disch := omega) only [go_sem, ht]
    refine LW.ghost (Gh.nncW (id := 1) (cs := [PV.val (.bool false), PV.val (.slice none 0 0)]) (by simp -implicitDefEqProofs (disch := omega) only [go_sem, ht, upd_self])) ?_
    refine LW.loopW hc ht (by kernel_rfl) (fun t => t.sl 0 = .sl (n + 1) (W.map SN) ∧ t.sl 2 = .ptr 0 0 ∧ t.sl 3 = .ptr 1 0 ∧ t.H 0 = some [.val (.bool false), .val (.slice none 0 0)] ∧ 1 < t.nx ∧ ∃ i : Nat, i ≤ n + 1 ∧ t.sl 4 = .val (.int .i64 i) ∧ ∃ s : Int, s + Ytfjdfnlkobeehaa.sgn i * g i = dv ∧ t.H 1 = some [.val (.bool (decide (s < 0))), .sl (D s.natAbs).length ((D s.natAbs).map I)])
      (fun t => match t.sl 4 with | .val (.int _ k) => n + 1 - k.toNat | _ => 0) ?_ ?_
    · simp -implicitDefEqProofs (disch := omega) only [go_sem, ht, upd_self]
      refine ⟨0, Nat.zero_le _, rfl, 0, by rw [h00]; simp [Ytfjdfnlkobeehaa.sgn], ?_⟩
      rw [show (0 : Int).natAbs = 0 from rfl, D_zero]; rfl
    · rintro t ⟨h0, h2, h3, hH0, hnx, i, hi, h4, s, hs, hH⟩
      by_cases hil : i = n + 1
      · subst hil
        rw [hend, Int.mul_zero, Int.add_zero] at hs
        subst hs
        simp -implicitDefEqProofs (disch := omega) only [go_sem, ht, h0, h2, h3, h4, hH, hH0]
        (refine end_treeM 2 ?_; simp -implicitDefEqProofs (disch := omega) only [go_sem, ht, h2, upd_self])
      · have hlt : i < n + 1 := by omega
        have hgi := get_SNM' (W := W) (i := i) (by omega)
        obtain ⟨hzl, hzz⟩ := hW _ (getD_mem (d := []) (show i < W.length by omega))
        have hat := hat i hlt
        have hmi := hmin i hlt
        have hre := hrec i hlt
        have hei := hez i hlt
        have hgz := hdz i
        have hx := Ytfjdfnlkobeehaa.vc_z hzz 0
        obtain ⟨x, z', hz⟩ : ∃ x z', W.getD i [] = x :: z' := by
          cases h : W.getD i [] with
          | nil => rw [h] at hzl; simp at hzl
          | cons x z' => exact ⟨x, z', rfl⟩
        rw [hz] at hgi hat hx
        rw [show vc (x :: z') 0 = x from rfl] at hat hx
        rw [SN_def, SNc_cons, List.length_cons] at hgi
        have hm1 := nmul_z (okZ hx (by omega)) (okZ hei (by omega)) (by have := lenZ hx; have := lenZ hei; omega)
        have zt := hx.mul hei
        have hng := minus_z (okZ zt (by omega))
        have hsz : Z (k + (n * (k + 5) + 1) + 6) s := by
          have : s = dv - Ytfjdfnlkobeehaa.sgn i * g i := by omega
          rw [this]
          exact hd0.sub (Zsgn hgz)
        have hrm := rem_two (P := Try.prog) 3 i
        have hsg := sgn_mod i
        have hss := Ytfjdfnlkobeehaa.sgn_succ i
        have hgen : ∀ t' : Int, Z (k + (n * (k + 5) + 1)) t' → PT Try.prog 109 [NZ s, NZ t'] (isV (NZ (s + t'))) := fun t' h => by
          have zs : Z (k + (n * (k + 5) + 1) + 6 + 1) ((s.natAbs + t'.natAbs : Nat) : Int) := Ytfjdfnlkobeehaa.Z.add (x := (s.natAbs : Int)) (y := (t'.natAbs : Int)) hsz (h.mono (by omega))
          exact nadd_z (okZ hsz (by omega)) (okZ h (by omega)) (okZ zs (by omega))
        have ha1 := hgen _ zt
        have ha2 := hgen _ zt.neg
        simp only [SNM_def] at hmi hre
        by_cases hod : i % 2 = 1
        · rw [hod] at hrm
          rw [if_pos hod] at hsg
          have hs' : s + -(x * e i) + Ytfjdfnlkobeehaa.sgn (i + 1) * g (i + 1) = dv := by
            rw [← hs, hat, hss, hsg]; omega
          clear hgen hat hs hsg hss zt ha1 hm1
          have hm1 := nmul_z (okZ hx (by omega)) (okZ hei (by omega)) (by have := lenZ hx; have := lenZ hei; omega)
          generalize s + -(x * e i) = s' at *
          generalize -(x * e i) = y' at *
          generalize x * e i = y at *
          generalize e i = e0 at *
          simp -implicitDefEqProofs (disch := omega) only [go_sem, ht, h0, h2, h3, h4, hgi]
          ((refine pCall_vw (by refine ⟨⟨?_, ?_⟩, ?_, ?_⟩; rotate_left 2; (first | (right; rintro r rfl; rfl) | left); all_goals ((try simp -implicitDefEqProofs (disch := omega) only [h0, h2, h3, h4, hgi, hrm, hH, hH0, go_sem, ht]) <;> rfl)) (hmi) ?_; rintro _ nx_1 - rfl hnx_1; simp -implicitDefEqProofs (disch := omega) only [h0, h2, h3, h4, hgi, hrm, hH, hH0, go_sem, ht]); (refine pCall_vw (by refine ⟨⟨?_, ?_⟩, ?_, ?_⟩; rotate_left 2; (first | (right; rintro r rfl; rfl) | left); all_goals ((try simp -implicitDefEqProofs (disch := omega) only [h0, h2, h3, h4, hgi, hrm, hH, hH0, go_sem, ht]) <;> rfl)) (hre) ?_; rintro _ nx_2 - rfl hnx_2; simp -implicitDefEqProofs (disch := omega) only [h0, h2, h3, h4, hgi, hrm, hH, hH0, go_sem, ht]); (refine pCall_vw (by refine ⟨⟨?_, ?_⟩, ?_, ?_⟩; rotate_left 2; (first | (right; rintro r rfl; rfl) | left); all_goals ((try simp -implicitDefEqProofs (disch := omega) only [h0, h2, h3, h4, hgi, hrm, hH, hH0, go_sem, ht]) <;> rfl)) (hm1) ?_; rintro _ nx_3 - rfl hnx_3; simp -implicitDefEqProofs (disch := omega) only [h0, h2, h3, h4, hgi, hrm, hH, hH0, go_sem, ht]); (refine pCall_vw (by refine ⟨⟨?_, ?_⟩, ?_, ?_⟩; rotate_left 2; (first | (right; rintro r rfl; rfl) | left); all_goals ((try simp -implicitDefEqProofs (disch := omega) only [h0, h2, h3, h4, hgi, hrm, hH, hH0, go_sem, ht]) <;> rfl)) (hng) ?_; rintro _ nx_4 - rfl hnx_4; simp -implicitDefEqProofs (disch := omega) only [h0, h2, h3, h4, hgi, hrm, hH, hH0, go_sem, ht]); (refine pCall_vw (by refine ⟨⟨?_, ?_⟩, ?_, ?_⟩; rotate_left 2; (first | (right; rintro r rfl; rfl) | left); all_goals ((try simp -implicitDefEqProofs (disch := omega) only [h0, h2, h3, h4, hgi, hrm, hH, hH0, go_sem, ht]) <;> rfl)) (ha2) ?_; rintro _ nx_5 - rfl hnx_5; simp -implicitDefEqProofs (disch := omega) only [h0, h2, h3, h4, hgi, hrm, hH, hH0, go_sem, ht]))
          exact ⟨⟨by omega, i + 1, by omega, rfl, s', hs', rfl⟩, by omega⟩
        · rw [show i % 2 = 0 by omega] at hrm
          rw [if_neg hod] at hsg
          have hs' : s + x * e i + Ytfjdfnlkobeehaa.sgn (i + 1) * g (i + 1) = dv := by
            rw [← hs, hat, hss, hsg]; omega
          clear hgen hat hs hsg hss zt ha2 hng
          generalize s + x * e i = s' at *
          generalize x * e i = y at *
          generalize e i = e0 at *
          simp -implicitDefEqProofs (disch := omega) only [go_sem, ht, h0, h2, h3, h4, hgi]
          ((refine pCall_vw (by refine ⟨⟨?_, ?_⟩, ?_, ?_⟩; rotate_left 2; (first | (right; rintro r rfl; rfl) | left); all_goals ((try simp -implicitDefEqProofs (disch := omega) only [h0, h2, h3, h4, hgi, hrm, hH, hH0, go_sem, ht]) <;> rfl)) (hmi) ?_; rintro _ nx_6 - rfl hnx_6; simp -implicitDefEqProofs (disch := omega) only [h0, h2, h3, h4, hgi, hrm, hH, hH0, go_sem, ht]); (refine pCall_vw (by refine ⟨⟨?_, ?_⟩, ?_, ?_⟩; rotate_left 2; (first | (right; rintro r rfl; rfl) | left); all_goals ((try simp -implicitDefEqProofs (disch := omega) only [h0, h2, h3, h4, hgi, hrm, hH, hH0, go_sem, ht]) <;> rfl)) (hre) ?_; rintro _ nx_7 - rfl hnx_7; simp -implicitDefEqProofs (disch := omega) only [h0, h2, h3, h4, hgi, hrm, hH, hH0, go_sem, ht]); (refine pCall_vw (by refine ⟨⟨?_, ?_⟩, ?_, ?_⟩; rotate_left 2; (first | (right; rintro r rfl; rfl) | left); all_goals ((try simp -implicitDefEqProofs (disch := omega) only [h0, h2, h3, h4, hgi, hrm, hH, hH0, go_sem, ht]) <;> rfl)) (hm1) ?_; rintro _ nx_8 - rfl hnx_8; simp -implicitDefEqProofs (disch := omega) only [h0, h2, h3, h4, hgi, hrm, hH, hH0, go_sem, ht]); (refine pCall_vw (by refine ⟨⟨?_, ?_⟩, ?_, ?_⟩; rotate_left 2; (first | (right; rintro r rfl; rfl) | left); all_goals ((try simp -implicitDefEqProofs (disch := omega) only [h0, h2, h3, h4, hgi, hrm, hH, hH0, go_sem, ht]) <;> rfl)) (ha1) ?_; rintro _ nx_9 - rfl hnx_9; simp -implicitDefEqProofs (disch := omega) only [h0, h2, h3, h4, hgi, hrm, hH, hH0, go_sem, ht]))
          exact ⟨⟨by omega, i + 1, by omega, rfl, s', hs', rfl⟩, by omega⟩
end
end Go.Proofs.Ytfjdfnlkobeehaa.Ref
end
