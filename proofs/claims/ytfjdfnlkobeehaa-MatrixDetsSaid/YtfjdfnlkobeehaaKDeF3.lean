/- Part 3 of the way to the statement: the walk and what it needs. -/
import Derived.Test.YtfjdfnlkobeehaaKDeF2
section
set_option linter.unusedVariables false
set_option linter.unusedSimpArgs false
namespace Go.Proofs.Ytfjdfnlkobeehaa


abbrev Vc := Nat → Int

def dtx (f : List Vc → Int) (c : Nat) : List Vc → List Vc → Int
  | _, [] => 0
  | p, r :: rs => r c * f (p ++ rs) - dtx f c (p ++ [r]) rs

def dt : List Nat → List Vc → Int
  | [], [] => 1
  | [], _ :: _ => 0
  | c :: cs, rs => dtx (dt cs) c [] rs
theorem dt_cons (c : Nat) (cs : List Nat) (rs : List Vc) : dt (c :: cs) rs = dtx (dt cs) c [] rs := by rw [dt]
theorem dt_nil_cons (l m : List Vc) (x : Vc) : dt [] (l ++ x :: m) = 0 := by
  cases l <;> rfl


def LinC (cs : List Nat) (f : List Vc → Int) : Prop := ∀ (pre post : List Vc) (a b : Int) (u v w : Vc), (∀ c ∈ cs, w c = a * u c + b * v c) → f (pre ++ w :: post) = a * f (pre ++ u :: post) + b * f (pre ++ v :: post)
theorem dtx_lin_pre {cs : List Nat} {f : List Vc → Int} (hf : LinC cs f) {a b : Int} {u v w : Vc} (hw : ∀ c ∈ cs, w c = a * u c + b * v c) (c : Nat) (p : List Vc) :
    ∀ (post p' : List Vc), dtx f c (p ++ w :: p') post = a * dtx f c (p ++ u :: p') post + b * dtx f c (p ++ v :: p') post
  | [], p' => by simp [dtx]
  | r :: rest, p' => by
    have ih := dtx_lin_pre hf hw c p rest (p' ++ [r])
    have h1 := hf p (p' ++ rest) a b u v w hw
    simp only [dtx, List.append_assoc, List.cons_append] at ih h1 ⊢
    rw [ih, h1]
    simp only [Int.mul_add, Int.mul_sub]
    rw [Int.mul_left_comm (r c) a, Int.mul_left_comm (r c) b]
    omega
theorem dtx_lin {cs : List Nat} {f : List Vc → Int} (hf : LinC cs f) {a b : Int} {u v w : Vc} {c : Nat} (hw : ∀ x ∈ c :: cs, w x = a * u x + b * v x) (post : List Vc) :
    ∀ (pre p : List Vc), dtx f c p (pre ++ w :: post) = a * dtx f c p (pre ++ u :: post) + b * dtx f c p (pre ++ v :: post)
  | [], p => by
    have hw' : ∀ x ∈ cs, w x = a * u x + b * v x := fun x hx => hw x (List.mem_cons_of_mem _ hx)
    have h1 := dtx_lin_pre hf hw' c p post []
    have h2 := hw c (List.mem_cons_self ..)
    simp only [dtx, List.nil_append] at h1 ⊢
    rw [h1, h2]
    simp only [Int.mul_add, Int.mul_sub, Int.add_mul, Int.mul_assoc]
    omega
  | r :: pre, p => by
    have hw' : ∀ x ∈ cs, w x = a * u x + b * v x := fun x hx => hw x (List.mem_cons_of_mem _ hx)
    have ih := dtx_lin hf hw post pre (p ++ [r])
    have h1 := hf (p ++ pre) post a b u v w hw'
    simp only [dtx, List.append_assoc, List.cons_append] at ih h1 ⊢
    rw [ih, h1]
    simp only [Int.mul_add, Int.mul_sub]
    rw [Int.mul_left_comm (r c) a, Int.mul_left_comm (r c) b]
    omega
theorem dt_lin : ∀ cs : List Nat, LinC cs (dt cs)
  | [] => fun pre post a b u v w _ => by rw [dt_nil_cons, dt_nil_cons, dt_nil_cons]; simp
  | c :: cs => fun pre post a b u v w hw => by
    simp only [dt_cons]
    exact dtx_lin (dt_lin cs) hw post pre []


def AltC (f : List Vc → Int) : Prop := ∀ (pre post : List Vc) (x y : Vc), f (pre ++ x :: y :: post) = -f (pre ++ y :: x :: post)
theorem dtx_alt_pre {f : List Vc → Int} (hf : AltC f) (c : Nat) (p : List Vc) (x y : Vc) : ∀ (post p' : List Vc), dtx f c (p ++ x :: y :: p') post = -dtx f c (p ++ y :: x :: p') post
  | [], p' => by simp [dtx]
  | r :: rest, p' => by
    have ih := dtx_alt_pre hf c p x y rest (p' ++ [r])
    have h1 := hf p (p' ++ rest) x y
    simp only [dtx, List.append_assoc, List.cons_append] at ih h1 ⊢
    rw [ih, h1, Int.mul_neg]
    omega
theorem dtx_alt {f : List Vc → Int} (hf : AltC f) (c : Nat) (x y : Vc) (post : List Vc) : ∀ (pre p : List Vc), dtx f c p (pre ++ x :: y :: post) = -dtx f c p (pre ++ y :: x :: post)
  | [], p => by
    have h1 := dtx_alt_pre hf c p x y post []
    simp only [dtx, List.append_assoc, List.cons_append, List.nil_append] at h1 ⊢
    rw [h1]
    omega
  | r :: pre, p => by
    have ih := dtx_alt hf c x y post pre (p ++ [r])
    have h1 := hf (p ++ pre) post x y
    simp only [dtx, List.append_assoc, List.cons_append] at ih h1 ⊢
    rw [ih, h1, Int.mul_neg]
    omega
theorem dt_alt : ∀ cs : List Nat, AltC (dt cs)
  | [] => fun pre post x y => by rw [dt_nil_cons, dt_nil_cons]; rfl
  | c :: cs => fun pre post x y => by
    simp only [dt_cons]
    exact dtx_alt (dt_alt cs) c x y post pre []

theorem dt_twice (cs : List Nat) (x : Vc) (post : List Vc) : ∀ (mid pre : List Vc), dt cs (pre ++ x :: (mid ++ x :: post)) = 0
  | [], pre => by
    have := dt_alt cs pre post x x
    simp only [List.nil_append]
    omega
  | m :: mid, pre => by
    have h1 := dt_alt cs pre (mid ++ x :: post) x m
    have ih := dt_twice cs x post mid (pre ++ [m])
    simp only [List.append_assoc, List.cons_append, List.nil_append] at h1 ih ⊢
    rw [h1, ih]; rfl
theorem dt_mem {cs : List Nat} {x : Vc} {pre post : List Vc} (h : x ∈ pre ∨ x ∈ post) : dt cs (pre ++ x :: post) = 0 := by
  rcases h with h | h
  · obtain ⟨a, b, rfl⟩ := List.append_of_mem h
    have := dt_twice cs x post b a
    simpa [List.append_assoc] using this
  · obtain ⟨a, b, rfl⟩ := List.append_of_mem h
    exact dt_twice cs x b a pre
theorem dt_congr {cs : List Nat} {pre post : List Vc} {u w : Vc} (h : ∀ c ∈ cs, w c = u c) : dt cs (pre ++ w :: post) = dt cs (pre ++ u :: post) := by
  have := dt_lin cs pre post 1 0 u u w (fun c hc => by rw [h c hc]; omega)
  omega
theorem dt_scale {cs : List Nat} {pre post : List Vc} {u w : Vc} {a : Int} (h : ∀ c ∈ cs, w c = a * u c) : dt cs (pre ++ w :: post) = a * dt cs (pre ++ u :: post) := by
  have := dt_lin cs pre post a 0 u u w (fun c hc => by rw [h c hc]; omega)
  omega
theorem dt_zero {cs : List Nat} {pre post : List Vc} {w : Vc} (h : ∀ c ∈ cs, w c = 0) : dt cs (pre ++ w :: post) = 0 := by
  have := dt_lin cs pre post 0 0 w w w (fun c hc => by rw [h c hc]; omega)
  omega

def lcs : List Int → List Vc → Vc
  | a :: as, r :: rs, j => a * r j + lcs as rs j
  | _, _, _ => 0
theorem lcs_nil (rs : List Vc) (j : Nat) : lcs [] rs j = 0 := by rw [lcs]; simp
theorem lcs_app {j : Nat} : ∀ {m : List Int} {rs : List Vc} (n : List Int) (ss : List Vc), m.length = rs.length → lcs (m ++ n) (rs ++ ss) j = lcs m rs j + lcs n ss j
  | [], [], n, ss, _ => by rw [lcs_nil]; simp
  | a :: m, r :: rs, n, ss, h => by
    simp only [List.cons_append, lcs]
    rw [lcs_app n ss (by simpa using h)]; omega
  | [], _ :: _, _, _, h => by simp at h
  | _ :: _, [], _, _, h => by simp at h
theorem lcs_nil_r (m : List Int) (j : Nat) : lcs m [] j = 0 := by cases m <;> rfl
theorem lcs_cons (a : Int) (m : List Int) (r : Vc) (rs : List Vc) (j : Nat) : lcs (a :: m) (r :: rs) j = a * r j + lcs m rs j := rfl

theorem dt_add {cs : List Nat} {pre post : List Vc} {x : Vc} (m : List Int) (rs : List Vc) (w : Vc) (hr : ∀ r ∈ rs, r ∈ pre ∨ r ∈ post) (hw : ∀ c ∈ cs, w c = x c + lcs m rs c) : dt cs (pre ++ w :: post) = dt cs (pre ++ x :: post) := by
  induction m generalizing rs w with
  | nil => exact dt_congr fun c hc => by rw [hw c hc, lcs_nil]; omega
  | cons a m ih =>
    cases rs with
    | nil => exact dt_congr fun c hc => by rw [hw c hc, lcs_nil_r]; omega
    | cons r rs =>
      have ih := ih rs (fun j => x j + lcs m rs j) (fun s hs => hr s (List.mem_cons_of_mem _ hs)) (fun c hc => rfl)
      have h1 := dt_lin cs pre post 1 a (fun j => x j + lcs m rs j) r w (fun c hc => by rw [hw c hc, lcs_cons]; omega)
      rw [dt_mem (hr r (List.mem_cons_self ..)), ih] at h1
      omega

theorem dt_put {cs : List Nat} {pre post : List Vc} {x w : Vc} {a b : Int} {m n : List Int} (hm : ∀ c ∈ cs, b * w c = a * x c + lcs m pre c + lcs n post c) : b * dt cs (pre ++ w :: post) = a * dt cs (pre ++ x :: post) := by
  have h1 := dt_scale (cs := cs) (pre := pre) (post := post) (u := w) (w := fun j => b * w j) (a := b) (fun c hc => rfl)
  have h2 := dt_scale (cs := cs) (pre := pre) (post := post) (u := x) (w := fun j => a * x j) (a := a) (fun c hc => rfl)
  have h3 := dt_add (cs := cs) (pre := pre) (post := post) (x := fun j => a * x j) m pre (fun j => a * x j + lcs m pre j) (fun r hr => .inl hr) (fun c hc => rfl)
  have h4 := dt_add (cs := cs) (pre := pre) (post := post) (x := fun j => a * x j + lcs m pre j) n post (fun j => b * w j) (fun r hr => .inr hr) hm
  rw [← h1, h4, h3, h2]


def sgn : Nat → Int
  | 0 => 1
  | n + 1 => -sgn n
theorem sgn_succ (n : Nat) : sgn (n + 1) = -sgn n := rfl
theorem sgn_ne (n : Nat) : sgn n ≠ 0 := by
  induction n with
  | zero => decide
  | succ n ih => rw [sgn_succ]; omega
theorem sgn_sq (n : Nat) : sgn n * sgn n = 1 := by
  induction n with
  | zero => rfl
  | succ n ih => rw [sgn_succ, Int.neg_mul_neg]; exact ih
theorem sgn_abs (n : Nat) : (sgn n).natAbs = 1 := by
  induction n with
  | zero => rfl
  | succ n ih => rw [sgn_succ, Int.natAbs_neg]; exact ih
theorem dtx_pre0 {f : List Vc → Int} {u : Vc} (hf : ∀ a b, f (a ++ u :: b) = 0) (c : Nat) (p : List Vc) : ∀ (post p' : List Vc), dtx f c (p ++ u :: p') post = 0
  | [], p' => rfl
  | r :: rest, p' => by
    have ih := dtx_pre0 hf c p rest (p' ++ [r])
    have h1 := hf p (p' ++ rest)
    simp only [dtx, List.append_assoc, List.cons_append] at ih h1 ⊢
    rw [ih, h1]; simp
theorem dtx_first {f : List Vc → Int} {u : Vc} (hf : ∀ a b, f (a ++ u :: b) = 0) (c : Nat) (post : List Vc) : ∀ (pre p : List Vc), dtx f c p (pre ++ u :: post) = sgn pre.length * (u c * f (p ++ (pre ++ post)))
  | [], p => by
    have h1 := dtx_pre0 hf c p post []
    simp only [dtx, List.nil_append, List.length_nil, sgn] at h1 ⊢
    rw [h1]; omega
  | r :: pre, p => by
    have ih := dtx_first hf c post pre (p ++ [r])
    have h1 := hf (p ++ pre) post
    simp only [dtx, List.append_assoc, List.cons_append, List.nil_append, List.length_cons, sgn_succ] at ih h1 ⊢
    rw [ih, h1, Int.neg_mul]; omega
theorem dtx_pass_pre {F G : List Vc → Int} {u : Vc} {k : Nat} {x : Int} (hF : ∀ a b, F (a ++ u :: b) = sgn (a.length + k) * (x * G (a ++ b))) (c : Nat) (p : List Vc) : ∀ (post p' : List Vc), dtx F c (p ++ u :: p') post = sgn (p.length + k) * (x * dtx G c (p ++ p') post)
  | [], p' => by simp [dtx]
  | r :: rest, p' => by
    have ih := dtx_pass_pre hF c p rest (p' ++ [r])
    have h1 := hF p (p' ++ rest)
    simp only [dtx, List.append_assoc, List.cons_append] at ih h1 ⊢
    rw [ih, h1]
    simp only [Int.mul_sub]
    rw [Int.mul_left_comm (r c), Int.mul_left_comm (r c) x]
theorem dtx_pass {F G : List Vc → Int} {u : Vc} {k : Nat} {x : Int} (hF : ∀ a b, F (a ++ u :: b) = sgn (a.length + k) * (x * G (a ++ b))) {c : Nat} (hu : u c = 0) (post : List Vc) : ∀ (pre p : List Vc), dtx F c p (pre ++ u :: post) = sgn (p.length + pre.length + k + 1) * (x * dtx G c p (pre ++ post))
  | [], p => by
    have h1 := dtx_pass_pre hF c p post []
    simp only [dtx, List.nil_append, List.length_nil, sgn_succ, List.append_nil, Nat.add_zero] at h1 ⊢
    rw [h1, hu, Int.neg_mul]; omega
  | r :: pre, p => by
    have ih := dtx_pass hF hu post pre (p ++ [r])
    have h1 := hF (p ++ pre) post
    rw [show (p ++ [r]).length + pre.length + k + 1 = (p ++ pre).length + k + 1 + 1 by simp; omega, sgn_succ, sgn_succ] at ih
    rw [show p.length + (r :: pre).length + k + 1 = (p ++ pre).length + k + 1 + 1 by simp; omega, sgn_succ, sgn_succ]
    simp only [dtx, List.append_assoc, List.cons_append, List.nil_append] at ih h1 ⊢
    rw [ih, h1]
    simp only [Int.mul_sub, Int.neg_neg]
    rw [Int.mul_left_comm (r c), Int.mul_left_comm (r c) x]

theorem dt_one {c : Nat} {cr : List Nat} {u : Vc} (hr : ∀ j ∈ cr, u j = 0) (post : List Vc) : ∀ (cl : List Nat) (pre : List Vc), (∀ j ∈ cl, u j = 0) → dt (cl ++ c :: cr) (pre ++ u :: post) = sgn (pre.length + cl.length) * (u c * dt (cl ++ cr) (pre ++ post))
  | [], pre, _ => by
    simp only [List.nil_append, dt_cons, List.length_nil, Nat.add_zero]
    have := dtx_first (f := dt cr) (u := u) (fun a b => dt_zero hr) c post pre []
    simpa using this
  | c0 :: cl, pre, hl => by
    simp only [List.cons_append, dt_cons]
    have hl' : ∀ j ∈ cl, u j = 0 := fun j hj => hl j (List.mem_cons_of_mem _ hj)
    have key : ∀ (post pre : List Vc), dt (cl ++ c :: cr) (pre ++ u :: post) = sgn (pre.length + cl.length) * (u c * dt (cl ++ cr) (pre ++ post)) := fun post pre => dt_one hr post cl pre hl'
    have := dtx_pass (F := dt (cl ++ c :: cr)) (G := dt (cl ++ cr)) (u := u) (k := cl.length) (x := u c) (fun a b => key b a) (c := c0) (hl c0 (List.mem_cons_self ..)) post pre []
    simpa [Nat.add_assoc] using this
end Go.Proofs.Ytfjdfnlkobeehaa
end

section
set_option linter.unusedVariables false
set_option linter.unusedSimpArgs false
namespace Go.Proofs.Ytfjdfnlkobeehaa


def Bd (β : Nat) (cs : List Nat) : List Vc → List Nat → Prop
  | [], [] => True
  | r :: rs, k :: ks => (∀ c ∈ cs, (r c).natAbs ≤ β ^ k) ∧ Bd β cs rs ks
  | _, _ => False
theorem Bd.app {β : Nat} {cs : List Nat} : ∀ {rs ss : List Vc} {ks ls : List Nat}, Bd β cs rs ks → Bd β cs ss ls → Bd β cs (rs ++ ss) (ks ++ ls)
  | [], _, [], _, _, h => h
  | _ :: _, _, _ :: _, _, h, h' => ⟨h.1, Bd.app h.2 h'⟩
  | [], _, _ :: _, _, h, _ => h.elim
  | _ :: _, _, [], _, h, _ => h.elim
theorem Bd.tail {β c : Nat} {cs : List Nat} : ∀ {rs : List Vc} {ks : List Nat}, Bd β (c :: cs) rs ks → Bd β cs rs ks
  | [], [], h => h
  | _ :: _, _ :: _, h => ⟨fun x hx => h.1 x (List.mem_cons_of_mem _ hx), Bd.tail h.2⟩
  | [], _ :: _, h => h.elim
  | _ :: _, [], h => h.elim

def wsum (ks : List Nat) : Nat := ks.sum + ks.length
theorem wsum_app (ks ls : List Nat) : wsum (ks ++ ls) = wsum ks + wsum ls := by simp [wsum]; omega
theorem wsum_cons (k : Nat) (ks : List Nat) : wsum (k :: ks) = k + 1 + wsum ks := by simp [wsum]; omega
theorem dtx_bound {β N c E : Nat} {cs : List Nat} {f : List Vc → Int} (hf : ∀ l kl, Bd β cs l kl → l.length ≤ N → (f l).natAbs ≤ β ^ wsum kl) :
    ∀ (rs : List Vc) (ks : List Nat) (p : List Vc) (kp : List Nat), Bd β (c :: cs) rs ks → Bd β (c :: cs) p kp → p.length + rs.length ≤ N + 1 → wsum kp + wsum ks = E + 1 → (dtx f c p rs).natAbs ≤ rs.length * β ^ E
  | [], _, _, _, _, _, _, _ => by simp [dtx]
  | r :: rs, k :: ks, p, kp, h, hp, hl, hw => by
    rw [wsum_cons] at hw
    have h1 := hf (p ++ rs) (kp ++ ks) (hp.tail.app h.2.tail) (by simp at hl ⊢; omega)
    have h2 := dtx_bound (E := E) hf rs ks (p ++ [r]) (kp ++ [k]) h.2 (hp.app ⟨h.1, trivial⟩) (by simp at hl ⊢; omega) (by rw [wsum_app]; simp [wsum] at hw ⊢; omega)
    have h3 := h.1 c (List.mem_cons_self ..)
    have h4 : (r c * f (p ++ rs)).natAbs ≤ β ^ E := by
      rw [Int.natAbs_mul]
      have := Nat.mul_le_mul h3 h1
      rw [← Nat.pow_add, wsum_app] at this
      rwa [show k + (wsum kp + wsum ks) = E by omega] at this
    have h5 := Int.natAbs_sub_le (r c * f (p ++ rs)) (dtx f c (p ++ [r]) rs)
    simp only [dtx, List.length_cons, Nat.add_mul, Nat.one_mul]
    omega
  | _ :: _, [], _, _, h, _, _, _ => h.elim
theorem dt_bound {β : Nat} : ∀ (cs : List Nat) (rs : List Vc) (ks : List Nat), Bd β cs rs ks → rs.length ≤ β → (dt cs rs).natAbs ≤ β ^ wsum ks
  | [], [], [], _, _ => by simp [dt, wsum]
  | [], r :: rs, ks, _, _ => by simp [dt]
  | [], [], _ :: _, h, _ => h.elim
  | c :: cs, rs, ks, h, hl => by
    rw [dt_cons]
    by_cases h0 : rs = []
    · subst h0; simp [dtx]
    · obtain ⟨E, hE⟩ : ∃ E, wsum ks = E + 1 := by
        cases rs with
        | nil => exact absurd rfl h0
        | cons r rs =>
          cases ks with
          | nil => exact h.elim
          | cons k ks => exact ⟨k + wsum ks, by rw [wsum_cons]; omega⟩
      have := dtx_bound (β := β) (N := rs.length - 1) (c := c) (cs := cs) (E := E) (f := dt cs) (fun l kl hb hn => dt_bound cs l kl hb (by omega)) rs ks [] [] h trivial (by
        have := List.length_pos_iff.2 h0
        simp; omega) (by simpa [wsum] using hE)
      refine Nat.le_trans this ?_
      rw [hE, Nat.pow_succ, Nat.mul_comm]
      exact Nat.mul_le_mul_left _ hl


def Spn (I : List Vc) (u : Vc) : Prop := ∃ (q : Int) (m : List Int), q ≠ 0 ∧ m.length = I.length ∧ ∀ j, q * u j = lcs m I j
theorem lcs_zip {x y : Int} {j : Nat} : ∀ {m n : List Int} {I : List Vc}, m.length = I.length → n.length = I.length → lcs (List.zipWith (fun a b => x * a + y * b) m n) I j = x * lcs m I j + y * lcs n I j
  | [], [], [], _, _ => by simp [lcs_nil]
  | a :: m, b :: n, r :: I, h, h' => by
    simp only [List.zipWith_cons_cons, lcs_cons]
    rw [lcs_zip (by simpa using h) (by simpa using h')]
    simp only [Int.mul_add, Int.add_mul, Int.mul_assoc]
    omega
  | [], _ :: _, [], _, h => by simp at h
  | _ :: _, [], [], h, _ => by simp at h
  | [], _, _ :: _, h, _ => by simp at h
  | _ :: _, [], _ :: _, _, h => by simp at h
  | _ :: _, _ :: _, [], h, _ => by simp at h
theorem Spn.add {I : List Vc} {u v w : Vc} {a b g : Int} (hg : g ≠ 0) (hu : Spn I u) (hv : Spn I v) (hw : ∀ j, g * w j = a * u j + b * v j) : Spn I w := by
  obtain ⟨p, m, hp, hm, h1⟩ := hu
  obtain ⟨q, n, hq, hn, h2⟩ := hv
  refine ⟨p * q * g, List.zipWith (fun x y => (a * q) * x + (b * p) * y) m n, Int.mul_ne_zero (Int.mul_ne_zero hp hq) hg, by simp [hm, hn], fun j => ?_⟩
  rw [lcs_zip hm hn, ← h1 j, ← h2 j, Int.mul_assoc, hw j]
  simp only [Int.mul_add, Int.mul_assoc]
  rw [show p * (q * (a * u j)) = a * (q * (p * u j)) by simp only [Int.mul_left_comm, Int.mul_comm], show p * (q * (b * v j)) = b * (p * (q * v j)) by simp only [Int.mul_left_comm, Int.mul_comm]]
theorem Spn.ext {I : List Vc} {u o : Vc} (h : Spn I u) : Spn (I ++ [o]) u := by
  obtain ⟨q, m, hq, hm, h1⟩ := h
  refine ⟨q, m ++ [0], hq, by simp [hm], fun j => ?_⟩
  rw [h1 j, lcs_app [0] [o] hm, lcs_cons, lcs_nil]; omega


def swp (i t k : Nat) : Nat := if k = i then t else if k = t then i else k
theorem swp_lt {i t k : Nat} (hi : t ≤ i) (hk : k < t) : swp i t k = k := by unfold swp; rw [if_neg (by omega), if_neg (by omega)]
theorem swp_bd {i t k n : Nat} (hi : i < n) (ht : t < n) (hk : k < n) : swp i t k < n := by unfold swp; split; exact ht; split; exact hi; exact hk
theorem swp_ge {i t k : Nat} (hi : t ≤ i) (hk : t ≤ k) : t ≤ swp i t k := by unfold swp; split; omega; split; omega; exact hk
theorem swp_t {i t : Nat} : swp i t t = i := by unfold swp; split; omega; rw [if_pos rfl]


structure EI (W O : Nat → Vc) (n : Nat) (C : List Nat) : Prop where
  tle : C.length ≤ n
  piv : ∀ (k : Nat) (hk : k < C.length), Spn ((List.range C.length).map O) (W k) ∧ (∀ (j : Nat) (hj : j < C.length), j ≠ k → W k C[j] = 0) ∧ W k C[k] ≠ 0
  non : ∀ k, C.length ≤ k → k < n → (∃ (q μ : Int) (m : List Int), q ≠ 0 ∧ μ ≠ 0 ∧ m.length = C.length ∧ ∀ j, q * W k j = μ * O k j + lcs m ((List.range C.length).map O) j) ∧ ∀ c ∈ C, W k c = 0
  det : dt C ((List.range C.length).map O) ≠ 0
theorem EI.start {O : Nat → Vc} {W : Nat → Vc} {n : Nat} (h : ∀ k, k < n → ∃ q : Int, q ≠ 0 ∧ ∀ j, q * W k j = O k j) : EI W O n [] := by
  refine ⟨Nat.zero_le _, fun k hk => by simp at hk, fun k _ hk => ?_, by simp [dt]⟩
  obtain ⟨q, hq, h1⟩ := h k hk
  exact ⟨⟨q, 1, [], hq, by decide, rfl, fun j => by rw [h1 j, lcs_nil]; omega⟩, fun c hc => by simp at hc⟩
theorem EI.swap {W O : Nat → Vc} {n i : Nat} {C : List Nat} (h : EI W O n C) (hi : C.length ≤ i) (hin : i < n) : EI (fun k => W (swp i C.length k)) (fun k => O (swp i C.length k)) n C := by
  have e : (List.range C.length).map (fun k => O (swp i C.length k)) = (List.range C.length).map O := by
    apply List.map_congr_left
    intro k hk
    rw [swp_lt hi (List.mem_range.1 hk)]
  refine ⟨h.tle, fun k hk => ?_, fun k hk hkn => ?_, ?_⟩
  · rw [e]
    simp only [swp_lt hi hk]
    exact h.piv k hk
  · rw [e]
    exact h.non _ (swp_ge hi hk) (swp_bd hin (by omega) hkn)
  · rw [e]; exact h.det
theorem EI.clear {W O V : Nat → Vc} {n c : Nat} {C : List Nat} (h : EI W O n C) (htn : C.length < n) (hc : W C.length c ≠ 0) (ht : V C.length = W C.length)
    (hV : ∀ k, k < n → k ≠ C.length → ∃ a b g : Int, a ≠ 0 ∧ g ≠ 0 ∧ (∀ j, g * V k j = a * W k j - b * W C.length j) ∧ V k c = 0) : EI V O n (C ++ [c]) := by
  obtain ⟨⟨q, μ, m, hq, hμ, hm, h1⟩, hz⟩ := h.non C.length (Nat.le_refl _) htn
  have hI : (List.range (C ++ [c]).length).map O = (List.range C.length).map O ++ [O C.length] := by
    rw [List.length_append, List.length_singleton, List.range_succ, List.map_append]; rfl
  have hIl : ((List.range C.length).map O).length = C.length := by simp
  have hspt : Spn ((List.range C.length).map O ++ [O C.length]) (W C.length) := by
    refine ⟨q, m ++ [μ], hq, by simp [hm], fun j => ?_⟩
    rw [h1 j, lcs_app [μ] [O C.length] (by rw [hm, hIl]), lcs_cons, lcs_nil]; omega
  refine ⟨by simp; omega, fun k hk => ?_, fun k hk hkn => ?_, ?_⟩
  · rw [hI]
    rw [List.length_append, List.length_singleton] at hk
    by_cases hkt : k = C.length
    · subst hkt
      rw [ht]
      refine ⟨hspt, fun j hj hne => ?_, by rw [List.getElem_append_right (by omega)]; simpa using hc⟩
      rw [List.length_append, List.length_singleton] at hj
      rw [List.getElem_append_left (by omega)]
      exact hz _ (List.getElem_mem _)
    · obtain ⟨a, b, g, ha, hg, hv, hvc⟩ := hV k (by omega) hkt
      obtain ⟨hs, hz', hnz⟩ := h.piv k (by omega)
      refine ⟨Spn.add hg hs.ext hspt (a := a) (b := -b) (fun j => by rw [hv j, Int.neg_mul]; omega), fun j hj hne => ?_, ?_⟩
      · rw [List.length_append, List.length_singleton] at hj
        by_cases hjt : j < C.length
        · rw [List.getElem_append_left hjt]
          have e1 := hv C[j]
          rw [hz' j hjt hne, hz _ (List.getElem_mem hjt), Int.mul_zero, Int.mul_zero] at e1
          exact (Int.mul_eq_zero.1 e1).resolve_left hg
        · rw [List.getElem_append_right (by omega)]
          simpa using hvc
      · rw [List.getElem_append_left (by omega)]
        have e1 := hv C[k]
        rw [hz _ (List.getElem_mem (by omega)), Int.mul_zero, Int.sub_zero] at e1
        intro h0
        rw [h0, Int.mul_zero] at e1
        rcases Int.mul_eq_zero.1 e1.symm with h | h
        · exact ha h
        · exact hnz h
  · rw [hI]
    rw [List.length_append, List.length_singleton] at hk ⊢
    obtain ⟨a, b, g, ha, hg, hv, hvc⟩ := hV k hkn (by omega)
    obtain ⟨⟨q', μ', m', hq', hμ', hm', h1'⟩, hz'⟩ := h.non k (by omega) hkn
    refine ⟨⟨q * q' * g, a * q * μ', List.zipWith (fun x y => (a * q) * x + (-(b * q')) * y) m' m ++ [-(b * q') * μ], Int.mul_ne_zero (Int.mul_ne_zero hq hq') hg, Int.mul_ne_zero (Int.mul_ne_zero ha hq) hμ', by simp [hm, hm'], fun j => ?_⟩, fun x hx => ?_⟩
    · rw [lcs_app _ _ (by simp [hm, hm']), lcs_zip (by rw [hm', hIl]) (by rw [hm, hIl]), lcs_cons, lcs_nil, Int.mul_assoc, hv j]
      have e1 := h1 j
      have e2 := h1' j
      generalize lcs m ((List.range C.length).map O) j = s at *
      generalize lcs m' ((List.range C.length).map O) j = s' at *
      have e3 : q * q' * (a * W k j - b * W C.length j) = a * q * (q' * W k j) - b * q' * (q * W C.length j) := by
        rw [Int.mul_sub]
        congr 1 <;> simp only [Int.mul_left_comm, Int.mul_comm, Int.mul_assoc]
      rw [e3, e1, e2]
      simp only [Int.mul_add, Int.neg_mul, Int.mul_assoc]
      omega
    · rcases List.mem_append.1 hx with hx | hx
      · have e1 := hv x
        rw [hz' x hx, hz x hx, Int.mul_zero, Int.mul_zero] at e1
        exact (Int.mul_eq_zero.1 e1).resolve_left hg
      · have : x = c := by simpa using hx
        subst this; exact hvc
  · rw [hI]
    have e1 := dt_put (cs := C ++ [c]) (pre := (List.range C.length).map O) (post := []) (x := O C.length) (w := W C.length) (a := μ) (b := q) (m := m) (n := []) (fun x _ => by rw [h1 x, lcs_nil]; omega)
    have e2 := dt_one (c := c) (cr := []) (u := W C.length) (fun j hj => by simp at hj) [] C ((List.range C.length).map O) hz
    rw [List.append_nil, List.append_nil] at e2
    rw [e2] at e1
    intro h0
    rw [h0, Int.mul_zero] at e1
    exact Int.mul_ne_zero hq (Int.mul_ne_zero (sgn_ne _) (Int.mul_ne_zero hc h.det)) e1

theorem EI.line {W O : Nat → Vc} {n k : Nat} {C : List Nat} (h : EI W O n C) (hk : k < n) :
    ∃ (a b : Int) (cs : List Nat) (R : List Nat), a ≠ 0 ∧ b ≠ 0 ∧ (∀ j, a * W k j = b * dt (j :: cs) (R.map O)) ∧ (R = List.range C.length ∧ k < C.length ∨ C.length ≤ k ∧ R = List.range C.length ++ [k]) := by
  by_cases hkt : k < C.length
  · obtain ⟨⟨q, m, hq, hm, h1⟩, hz, hnz⟩ := h.piv k hkt
    rw [List.length_map, List.length_range] at hm
    have hex : ∃ μ ∈ m, μ ≠ 0 := by
      apply Classical.byContradiction
      intro hno
      have hall : ∀ (m : List Int) (I : List Vc) (j : Nat), (∀ μ ∈ m, μ = 0) → lcs m I j = 0 := by
        intro m
        induction m with
        | nil => intro I j _; exact lcs_nil _ _
        | cons a m ih =>
          intro I j hm
          cases I with
          | nil => exact lcs_nil_r _ _
          | cons r I => rw [lcs_cons, ih I j (fun μ hμ => hm μ (List.mem_cons_of_mem _ hμ)), hm a (List.mem_cons_self ..)]; omega
      have e := h1 C[k]
      rw [hall m _ _ (fun μ hμ => Classical.byContradiction fun hne => hno ⟨μ, hμ, hne⟩)] at e
      exact Int.mul_ne_zero hq hnz e
    obtain ⟨μ, hμm, hμ⟩ := hex
    obtain ⟨m1, m2, rfl⟩ := List.append_of_mem hμm
    have hl1 : m1.length < C.length := by simp at hm; omega
    have hsp : (List.range C.length).map O = ((List.range C.length).take m1.length).map O ++ O m1.length :: ((List.range C.length).drop (m1.length + 1)).map O := by
      rw [← List.map_cons, ← List.map_append]
      congr 1
      conv => lhs; rw [← List.take_append_drop m1.length (List.range C.length)]
      congr 1
      rw [List.drop_eq_getElem_cons (by simpa using hl1)]
      simp
    have hput : ∀ cs, q * dt cs (((List.range C.length).take m1.length).map O ++ W k :: ((List.range C.length).drop (m1.length + 1)).map O) = μ * dt cs ((List.range C.length).map O) := fun cs => by
      rw [hsp]
      refine dt_put (m := m1) (n := m2) fun x _ => ?_
      rw [h1 x, hsp, lcs_app _ _ (by simp; omega), lcs_cons]; omega
    have hC : C = C.take k ++ C[k] :: C.drop (k + 1) := by
      conv => lhs; rw [← List.take_append_drop k C]
      congr 1
      exact List.drop_eq_getElem_cons hkt
    have z1 : ∀ j ∈ C.take k, W k j = 0 := fun j hj => by
      obtain ⟨i, hi, rfl⟩ := List.mem_iff_getElem.1 hj
      rw [List.length_take] at hi
      rw [List.getElem_take]
      exact hz i (by omega) (by omega)
    have z2 : ∀ j ∈ C.drop (k + 1), W k j = 0 := fun j hj => by
      obtain ⟨i, hi, rfl⟩ := List.mem_iff_getElem.1 hj
      rw [List.length_drop] at hi
      rw [List.getElem_drop]
      exact hz _ (by omega) (by omega)
    have hD := hput C
    have hone := dt_one (c := C[k]) (cr := C.drop (k + 1)) (u := W k) z2 (((List.range C.length).drop (m1.length + 1)).map O) (C.take k) (((List.range C.length).take m1.length).map O) z1
    rw [← hC] at hone
    rw [hone] at hD
    have hΔ : dt (C.take k ++ C.drop (k + 1)) (((List.range C.length).take m1.length).map O ++ ((List.range C.length).drop (m1.length + 1)).map O) ≠ 0 := fun h0 => by
      rw [h0, Int.mul_zero, Int.mul_zero, Int.mul_zero] at hD
      exact Int.mul_ne_zero hμ h.det hD.symm
    refine ⟨q * (sgn ((((List.range C.length).take m1.length).map O).length + ([] : List Nat).length) * dt (C.take k ++ C.drop (k + 1)) (((List.range C.length).take m1.length).map O ++ ((List.range C.length).drop (m1.length + 1)).map O)), μ, C.take k ++ C.drop (k + 1), List.range C.length,
      Int.mul_ne_zero hq (Int.mul_ne_zero (sgn_ne _) hΔ), hμ, fun j => ?_, .inl ⟨rfl, hkt⟩⟩
    rw [← hput (j :: (C.take k ++ C.drop (k + 1)))]
    have hone2 := dt_one (c := j) (cr := C.take k ++ C.drop (k + 1)) (u := W k) (fun x hx => by
      rcases List.mem_append.1 hx with hx | hx
      · exact z1 x hx
      · exact z2 x hx) (((List.range C.length).drop (m1.length + 1)).map O) [] (((List.range C.length).take m1.length).map O) (fun x hx => by simp at hx)
    rw [List.nil_append, List.nil_append] at hone2
    rw [hone2]
    simp only [Int.mul_assoc]
    congr 2
    exact Int.mul_comm _ _
  · obtain ⟨⟨q, μ, m, hq, hμ, hm, h1⟩, hz⟩ := h.non k (by omega) hk
    refine ⟨q * (sgn (((List.range C.length).map O).length + ([] : List Nat).length) * dt C ((List.range C.length).map O)), μ, C, List.range C.length ++ [k], Int.mul_ne_zero hq (Int.mul_ne_zero (sgn_ne _) h.det), hμ, fun j => ?_, .inr ⟨by omega, rfl⟩⟩
    have e1 := dt_put (cs := j :: C) (pre := (List.range C.length).map O) (post := []) (x := O k) (w := W k) (a := μ) (b := q) (m := m) (n := []) (fun x _ => by rw [h1 x, lcs_nil]; omega)
    have e2 := dt_one (c := j) (cr := C) (u := W k) hz [] [] ((List.range C.length).map O) (fun x hx => by simp at hx)
    rw [List.nil_append, List.nil_append, List.append_nil] at e2
    rw [List.map_append, List.map_cons, List.map_nil, ← e1, e2]
    simp only [Int.mul_assoc]
    congr 2
    exact Int.mul_comm _ _
end Go.Proofs.Ytfjdfnlkobeehaa
end

section
set_option linter.unusedVariables false
set_option linter.unusedSimpArgs false
namespace Go.Proofs.Ytfjdfnlkobeehaa


def vc (z : List Int) : Vc := fun j => z.getD j 0
theorem vc_lt {z : List Int} {j : Nat} (h : j < z.length) : vc z j = z[j] := by simp [vc, h]
theorem vc_ge {z : List Int} {j : Nat} (h : z.length ≤ j) : vc z j = 0 := by simp [vc, List.getD_eq_getElem?_getD, List.getElem?_eq_none h]

def gcdF (g : Nat) (z : List Int) : Nat := z.foldl (fun g x => Nat.gcd g x.natAbs) g
def gcdL (z : List Int) : Nat := gcdF 0 z
theorem gcdF_nil (g : Nat) : gcdF g [] = g := rfl
theorem gcdF_cons (g : Nat) (x : Int) (z : List Int) : gcdF g (x :: z) = gcdF (Nat.gcd g x.natAbs) z := rfl
theorem gcdF_app (g : Nat) (z w : List Int) : gcdF g (z ++ w) = gcdF (gcdF g z) w := by simp [gcdF, List.foldl_append]
theorem dvd_gcdF {d : Nat} : ∀ {z : List Int} {g : Nat}, d ∣ gcdF g z ↔ d ∣ g ∧ ∀ x ∈ z, d ∣ x.natAbs
  | [], g => by simp [gcdF_nil]
  | x :: z, g => by
    rw [gcdF_cons, dvd_gcdF, Nat.dvd_gcd_iff]
    simp [and_assoc]
theorem dvd_gcdL {d : Nat} {z : List Int} : d ∣ gcdL z ↔ ∀ x ∈ z, d ∣ x.natAbs := by
  rw [gcdL, dvd_gcdF]; simp
theorem gcdL_dvd {z : List Int} {x : Int} (h : x ∈ z) : gcdL z ∣ x.natAbs := dvd_gcdL.1 (Nat.dvd_refl _) x h
theorem gcdL_zero {z : List Int} : gcdL z = 0 ↔ ∀ x ∈ z, x = 0 := by
  constructor
  · intro h x hx
    have := gcdL_dvd hx
    rw [h] at this
    have := Nat.eq_zero_of_zero_dvd this
    omega
  · intro h
    have : (0 : Nat) ∣ gcdL z := dvd_gcdL.2 fun x hx => by rw [h x hx]; exact Nat.dvd_refl 0
    exact Nat.eq_zero_of_zero_dvd this

def primZ (z : List Int) : List Int := z.map (fun x => x / (gcdL z : Nat))
theorem primZ_len (z : List Int) : (primZ z).length = z.length := by simp [primZ]
theorem primZ_vc (z : List Int) (j : Nat) : ((gcdL z : Nat) : Int) * vc (primZ z) j = vc z j := by
  by_cases h : j < z.length
  · rw [vc_lt (by rw [primZ_len]; exact h), vc_lt h]
    simp only [primZ, List.getElem_map]
    exact Int.mul_ediv_cancel' (Int.ofNat_dvd_left.2 (gcdL_dvd (List.getElem_mem h)))
  · rw [vc_ge (by rw [primZ_len]; omega), vc_ge (by omega), Int.mul_zero]

def Prm (z : List Int) : Prop := gcdL z = 1 ∨ ∀ x ∈ z, x = 0
theorem prm_primZ (z : List Int) : Prm (primZ z) := by
  by_cases h : gcdL z = 0
  · right
    intro x hx
    obtain ⟨y, hy, rfl⟩ := List.mem_map.1 hx
    rw [gcdL_zero.1 h y hy]; simp
  · left
    have h1 : gcdL (primZ z) * gcdL z ∣ gcdL z := dvd_gcdL.2 fun x hx => by
      have h2 : x / (gcdL z : Nat) ∈ primZ z := List.mem_map.2 ⟨x, hx, rfl⟩
      have h3 := gcdL_dvd h2
      have h4 : (x / (gcdL z : Nat)) * (gcdL z : Nat) = x := Int.ediv_mul_cancel (Int.ofNat_dvd_left.2 (gcdL_dvd hx))
      have h5 : x.natAbs = (x / (gcdL z : Nat)).natAbs * gcdL z := by
        conv => lhs; rw [← h4, Int.natAbs_mul]
        simp
      rw [h5]
      exact Nat.mul_dvd_mul_right h3 _
    have h6 := Nat.le_of_dvd (Nat.pos_of_ne_zero h) h1
    have h7 : gcdL (primZ z) ≠ 0 := fun h0 => by
      rw [h0, Nat.zero_mul] at h1
      exact h (Nat.eq_zero_of_zero_dvd h1)
    have h8 : gcdL (primZ z) * gcdL z ≤ 1 * gcdL z := by omega
    have := Nat.le_of_mul_le_mul_right h8 (Nat.pos_of_ne_zero h)
    omega

theorem prm_le {z : List Int} {M : Vc} {a b : Int} (hz : Prm z) (ha : a ≠ 0) (hb : b ≠ 0) (h : ∀ j, a * vc z j = b * M j) {j : Nat} (hj : j < z.length) : (vc z j).natAbs ≤ (M j).natAbs := by
  rcases hz with hz | hz
  · have hg : 0 < Nat.gcd b.natAbs a.natAbs := Nat.gcd_pos_of_pos_left _ (by omega)
    have hco := Nat.coprime_div_gcd_div_gcd hg
    have hdb := Nat.div_mul_cancel (Nat.gcd_dvd_left b.natAbs a.natAbs)
    have hda := Nat.div_mul_cancel (Nat.gcd_dvd_right b.natAbs a.natAbs)
    generalize Nat.gcd b.natAbs a.natAbs = g at *
    generalize b.natAbs / g = b' at *
    generalize a.natAbs / g = a' at *
    have key : ∀ i, a' * (vc z i).natAbs = b' * (M i).natAbs := fun i => by
      have := congrArg Int.natAbs (h i)
      rw [Int.natAbs_mul, Int.natAbs_mul, ← hda, ← hdb, Nat.mul_right_comm, Nat.mul_right_comm b'] at this
      exact Nat.eq_of_mul_eq_mul_right hg this
    have hb1 : b' ∣ gcdL z := dvd_gcdL.2 fun x hx => by
      obtain ⟨i, hi, rfl⟩ := List.mem_iff_getElem.1 hx
      refine hco.dvd_of_dvd_mul_left (m := a') ?_
      rw [← vc_lt hi, key i]
      exact Nat.dvd_mul_right _ _
    rw [hz] at hb1
    have hb2 : b' = 1 := Nat.dvd_one.1 hb1
    have ha2 : a' ≠ 0 := fun h0 => by rw [h0, Nat.zero_mul] at hda; omega
    have := key j
    rw [hb2, Nat.one_mul] at this
    rw [← this]
    exact Nat.le_mul_of_pos_left _ (Nat.pos_of_ne_zero ha2)
  · rw [vc_lt hj, hz _ (List.getElem_mem hj)]
    simp


def combZ (a b : Int) (z p : List Int) : List Int := List.zipWith (fun x y => a * x - b * y) z p
theorem combZ_len {a b : Int} {z p : List Int} (h : z.length = p.length) : (combZ a b z p).length = z.length := by simp [combZ, h]
theorem combZ_vc {a b : Int} {z p : List Int} (h : z.length = p.length) (j : Nat) : vc (combZ a b z p) j = a * vc z j - b * vc p j := by
  by_cases hj : j < z.length
  · rw [vc_lt (by rw [combZ_len h]; exact hj), vc_lt hj, vc_lt (by omega)]
    simp [combZ]
  · rw [vc_ge (by rw [combZ_len h]; omega), vc_ge (by omega), vc_ge (by omega)]; simp

def clearZ (z p : List Int) (c : Nat) : List Int :=
  if vc z c = 0 then z else primZ (combZ (vc p c / (Int.gcd (vc z c) (vc p c) : Nat)) (vc z c / (Int.gcd (vc z c) (vc p c) : Nat)) z p)
theorem clearZ_len {z p : List Int} {c : Nat} (h : z.length = p.length) : (clearZ z p c).length = z.length := by
  unfold clearZ; split
  · rfl
  · rw [primZ_len, combZ_len h]
theorem clearZ_prm {z p : List Int} {c : Nat} (h : Prm z) : Prm (clearZ z p c) := by
  unfold clearZ; split
  · exact h
  · exact prm_primZ _
theorem clearZ_line {z p : List Int} {c : Nat} (h : z.length = p.length) (hp : vc p c ≠ 0) :
    ∃ a b g : Int, a ≠ 0 ∧ g ≠ 0 ∧ (∀ j, g * vc (clearZ z p c) j = a * vc z j - b * vc p j) ∧ vc (clearZ z p c) c = 0 := by
  by_cases h0 : vc z c = 0
  · refine ⟨1, 0, 1, by decide, by decide, fun j => ?_, ?_⟩
    · rw [clearZ, if_pos h0]; omega
    · rw [clearZ, if_pos h0]; exact h0
  · have e : clearZ z p c = primZ (combZ (vc p c / (Int.gcd (vc z c) (vc p c) : Nat)) (vc z c / (Int.gcd (vc z c) (vc p c) : Nat)) z p) := by rw [clearZ, if_neg h0]
    have hg : ((Int.gcd (vc z c) (vc p c) : Nat) : Int) ≠ 0 := by
      have := Int.gcd_pos_of_ne_zero_left (vc p c) h0
      omega
    have d1 := Int.ediv_mul_cancel (Int.gcd_dvd_left (vc z c) (vc p c))
    have d2 := Int.ediv_mul_cancel (Int.gcd_dvd_right (vc z c) (vc p c))
    rw [e]
    generalize ((Int.gcd (vc z c) (vc p c) : Nat) : Int) = g at *
    generalize hA : vc p c / g = A at *
    generalize hB : vc z c / g = B at *
    have hA0 : A ≠ 0 := fun h => hp (by rw [← d2, h, Int.zero_mul])
    have hcol : vc (combZ A B z p) c = 0 := by
      rw [combZ_vc h, ← d1, ← d2]
      rw [show A * (B * g) = B * (A * g) by rw [Int.mul_left_comm]]; omega
    have hv := primZ_vc (combZ A B z p)
    by_cases hz : gcdL (combZ A B z p) = 0
    · refine ⟨A, B, 1, hA0, by decide, fun j => ?_, ?_⟩
      · have h1 := hv j
        rw [hz] at h1
        rw [← combZ_vc h, ← h1]
        have h2 : ∀ x ∈ primZ (combZ A B z p), x = 0 := fun x hx => by
          obtain ⟨y, hy, rfl⟩ := List.mem_map.1 hx
          rw [gcdL_zero.1 hz y hy]; simp
        by_cases hj : j < (primZ (combZ A B z p)).length
        · rw [vc_lt hj, h2 _ (List.getElem_mem hj)]; simp
        · rw [vc_ge (by omega)]; simp
      · have h2 : ∀ x ∈ primZ (combZ A B z p), x = 0 := fun x hx => by
          obtain ⟨y, hy, rfl⟩ := List.mem_map.1 hx
          rw [gcdL_zero.1 hz y hy]; simp
        by_cases hj : c < (primZ (combZ A B z p)).length
        · rw [vc_lt hj, h2 _ (List.getElem_mem hj)]
        · rw [vc_ge (by omega)]
    · refine ⟨A, B, (gcdL (combZ A B z p) : Nat), hA0, by omega, fun j => by rw [hv j, combZ_vc h], ?_⟩
      have h1 := hv c
      rw [hcol] at h1
      exact (Int.mul_eq_zero.1 h1).resolve_left (by omega)


def findP (W : List (List Int)) (c r : Nat) : Nat := if h : r < W.length then (if vc (W.getD r []) c ≠ 0 then r else findP W c (r + 1)) else W.length
termination_by W.length - r
theorem findP_le {W : List (List Int)} {c r : Nat} : findP W c r ≤ W.length := by
  rw [findP]
  split
  · split
    · omega
    · exact findP_le
  · exact Nat.le_refl _
termination_by W.length - r
theorem findP_spec {W : List (List Int)} {c r : Nat} (h : findP W c r < W.length) : r ≤ findP W c r ∧ vc (W.getD (findP W c r) []) c ≠ 0 := by
  rw [findP] at h ⊢
  by_cases hr : r < W.length
  · rw [dif_pos hr] at h ⊢
    by_cases hx : vc (W.getD r []) c ≠ 0
    · rw [if_pos hx]; exact ⟨Nat.le_refl _, hx⟩
    · rw [if_neg hx] at h ⊢
      have := findP_spec h
      exact ⟨by omega, this.2⟩
  · rw [dif_neg hr] at h; omega
termination_by W.length - r
theorem findP_none {W : List (List Int)} {c r : Nat} (h : findP W c r = W.length) : ∀ i, r ≤ i → i < W.length → vc (W.getD i []) c = 0 := by
  intro i hi hil
  rw [findP, dif_pos (by omega)] at h
  by_cases hx : vc (W.getD r []) c ≠ 0
  · rw [if_pos hx] at h; omega
  · rw [if_neg hx] at h
    by_cases hir : i = r
    · subst hir; exact Classical.byContradiction hx
    · exact findP_none h i (by omega) hil
termination_by W.length - r
def swapL (W : List (List Int)) (r i : Nat) : List (List Int) := (W.set r (W.getD i [])).set i (W.getD r [])
theorem swapL_len (W : List (List Int)) (r i : Nat) : (swapL W r i).length = W.length := by simp [swapL]
theorem swapL_get {W : List (List Int)} {r i k : Nat} (hr : r < W.length) (hi : i < W.length) (hk : k < W.length) : (swapL W r i).getD k [] = W.getD (swp i r k) [] := by
  unfold swapL swp
  simp only [List.getD_eq_getElem?_getD, List.getElem?_set]
  by_cases h1 : k = i
  · subst h1
    simp [hi]
  · rw [if_neg h1, if_neg (fun e => h1 e.symm)]
    by_cases h2 : k = r
    · subst h2; simp [hr]
    · rw [if_neg h2, if_neg (fun e => h2 e.symm)]
def clearAll (W : List (List Int)) (r c : Nat) : List (List Int) := W.mapIdx fun k z => if k = r then z else clearZ z (W.getD r []) c
theorem clearAll_len (W : List (List Int)) (r c : Nat) : (clearAll W r c).length = W.length := by simp [clearAll]
theorem clearAll_get {W : List (List Int)} {r c k : Nat} (hk : k < W.length) : (clearAll W r c).getD k [] = if k = r then W.getD k [] else clearZ (W.getD k []) (W.getD r []) c := by
  unfold clearAll
  simp [List.getD_eq_getElem?_getD, hk]
def stepE (c : Nat) (s : List (List Int) × List Nat) : List (List Int) × List Nat :=
  if findP s.1 c s.2.length < s.1.length then (clearAll (swapL s.1 s.2.length (findP s.1 c s.2.length)) s.2.length c, s.2 ++ [c]) else s
def echW (rows : List (List Int)) : Nat → List (List Int) × List Nat
  | 0 => (rows.map primZ, [])
  | c + 1 => stepE c (echW rows c)

def sz (κ : Nat → Nat) (n : Nat) : Nat := wsum ((List.range n).map κ)
theorem sz_zero (κ : Nat → Nat) : sz κ 0 = 0 := rfl
theorem sz_succ (κ : Nat → Nat) (n : Nat) : sz κ (n + 1) = sz κ n + (κ n + 1) := by
  unfold sz
  rw [List.range_succ, List.map_append, wsum_app]; rfl
theorem sz_mono {κ : Nat → Nat} {m n : Nat} (h : m ≤ n) : sz κ m ≤ sz κ n := by
  induction n with
  | zero => rw [show m = 0 by omega]; exact Nat.le_refl _
  | succ n ih =>
    rcases Nat.lt_or_ge m (n + 1) with h1 | h1
    · rw [sz_succ]; have := ih (by omega); omega
    · rw [show m = n + 1 by omega]; exact Nat.le_refl _
theorem sz_congr {κ κ' : Nat → Nat} : ∀ {n : Nat}, (∀ k, k < n → κ k = κ' k) → sz κ n = sz κ' n
  | 0, _ => rfl
  | n + 1, h => by rw [sz_succ, sz_succ, sz_congr (fun k hk => h k (by omega)), h n (by omega)]
theorem sz_upd {κ : Nat → Nat} {i x : Nat} : ∀ {n : Nat}, i < n → sz (fun k => if k = i then x else κ k) n + κ i = sz κ n + x
  | 0, h => by omega
  | n + 1, h => by
    rw [sz_succ, sz_succ]
    by_cases hi : i = n
    · subst hi
      rw [if_pos rfl, sz_congr (κ' := κ) (fun k hk => if_neg (by omega))]; omega
    · have := sz_upd (κ := κ) (i := i) (x := x) (n := n) (by omega)
      rw [if_neg (fun e => hi e.symm)]; omega
theorem sz_swp {κ : Nat → Nat} {i t n : Nat} (hi : i < n) (ht : t < n) : sz (fun k => κ (swp i t k)) n = sz κ n := by
  by_cases hit : i = t
  · subst hit
    refine sz_congr fun k _ => ?_
    unfold swp; split
    · rename_i h; rw [h]
    · rfl
  · have h1 := sz_upd (κ := κ) (i := t) (x := κ i) ht
    have h2 := sz_upd (κ := fun k => if k = t then κ i else κ k) (i := i) (x := κ t) hi
    simp only [if_neg hit] at h2
    have h3 : sz (fun k => κ (swp i t k)) n = sz (fun k => if k = i then κ t else if k = t then κ i else κ k) n := sz_congr fun k _ => by
      unfold swp; split
      · rfl
      · split <;> rfl
    omega

structure EZ (β B n cols : Nat) (s : List (List Int) × List Nat) : Prop where
  len : s.1.length = n
  row : ∀ k, k < n → (s.1.getD k []).length = cols ∧ Prm (s.1.getD k [])
  st : ∃ (O : Nat → Vc) (κ : Nat → Nat), EI (fun k => vc (s.1.getD k [])) O n s.2 ∧ (∀ k, k < n → ∀ j, (O k j).natAbs ≤ β ^ κ k) ∧ sz κ n ≤ B
theorem Bd_range {β : Nat} {cs : List Nat} {O : Nat → Vc} {κ : Nat → Nat} : ∀ (R : List Nat), (∀ k ∈ R, ∀ j, (O k j).natAbs ≤ β ^ κ k) → Bd β cs (R.map O) (R.map κ)
  | [], _ => trivial
  | k :: R, h => ⟨fun c _ => h k (List.mem_cons_self ..) c, Bd_range R fun x hx => h x (List.mem_cons_of_mem _ hx)⟩

theorem EZ.short {β B n cols : Nat} {s : List (List Int) × List Nat} (h : EZ β B n cols s) (hn : n ≤ β) (hβ : 1 ≤ β) {k : Nat} (hk : k < n) (x : Int) (hx : x ∈ s.1.getD k []) : x.natAbs ≤ β ^ B := by
  obtain ⟨O, κ, hE, hO, hB⟩ := h.st
  obtain ⟨a, b, cs, R, ha, hb, hl, hR⟩ := hE.line hk
  obtain ⟨hlen, hprm⟩ := h.row k hk
  obtain ⟨j, hj, rfl⟩ := List.mem_iff_getElem.1 hx
  have htn := hE.tle
  have h1 := prm_le hprm ha hb hl hj
  rw [vc_lt hj] at h1
  have hRb : ∀ r ∈ R, r < n := by
    intro r hr
    rcases hR with ⟨rfl, h2⟩ | ⟨h2, rfl⟩
    · have := List.mem_range.1 hr; omega
    · rcases List.mem_append.1 hr with hr | hr
      · have := List.mem_range.1 hr; omega
      · have : r = k := by simpa using hr
        omega
  have hRl : R.length ≤ n := by
    rcases hR with ⟨rfl, h2⟩ | ⟨h2, rfl⟩
    · simpa using htn
    · simp; omega
  have h2 := dt_bound (j :: cs) (R.map O) (R.map κ) (Bd_range R fun r hr => hO r (hRb r hr)) (by simp; omega)
  have h3 : wsum (R.map κ) ≤ sz κ n := by
    rcases hR with ⟨rfl, h2⟩ | ⟨h2, rfl⟩
    · exact sz_mono htn
    · rw [List.map_append, wsum_app]
      have : wsum ([k].map κ) = κ k + 1 := by simp [wsum]
      rw [this]
      have h4 := sz_mono (κ := κ) (show s.2.length ≤ k by omega)
      have h5 := sz_mono (κ := κ) (show k + 1 ≤ n by omega)
      rw [sz_succ] at h5
      unfold sz at h4 h5 ⊢
      omega
  exact Nat.le_trans h1 (Nat.le_trans h2 (Nat.pow_le_pow_right hβ (Nat.le_trans h3 hB)))
theorem EZ.start {β B cols : Nat} {rows : List (List Int)} {κ : Nat → Nat} (hc : ∀ z ∈ rows, z.length = cols) (hk : ∀ k, k < rows.length → ∀ x ∈ rows.getD k [], x.natAbs ≤ β ^ κ k) (hB : sz κ rows.length ≤ B) : EZ β B rows.length cols (rows.map primZ, []) := by
  have hg : ∀ k, k < rows.length → (rows.map primZ).getD k [] = primZ (rows.getD k []) := fun k hk => by simp [List.getD_eq_getElem?_getD, hk]
  refine ⟨by simp, fun k hk => ?_, fun k => vc (rows.getD k []), κ, EI.start fun k hk => ?_, fun k hkn j => ?_, hB⟩
  · simp only [hg k hk]
    exact ⟨by rw [primZ_len]; exact hc _ (by simp [List.getD_eq_getElem?_getD, hk]), prm_primZ _⟩
  · simp only [hg k hk]
    by_cases h0 : gcdL (rows.getD k []) = 0
    · refine ⟨1, by decide, fun j => ?_⟩
      have h2 := gcdL_zero.1 h0
      have h1 := primZ_vc (rows.getD k []) j
      rw [h0] at h1
      rw [← h1]
      by_cases hj : j < (primZ (rows.getD k [])).length
      · have hj' := hj
        rw [primZ_len] at hj'
        rw [vc_lt hj]
        simp only [primZ, List.getElem_map]
        rw [h2 _ (List.getElem_mem hj')]; simp
      · rw [vc_ge (by omega)]; simp
    · exact ⟨(gcdL (rows.getD k []) : Nat), by omega, fun j => primZ_vc _ j⟩
  · show (vc (rows.getD k []) j).natAbs ≤ _
    by_cases hj : j < (rows.getD k []).length
    · rw [vc_lt hj]; exact hk k hkn _ (List.getElem_mem hj)
    · rw [vc_ge (by omega)]; simp
theorem EZ.step {β B n cols c : Nat} {s : List (List Int) × List Nat} (h : EZ β B n cols s) : EZ β B n cols (stepE c s) := by
  unfold stepE
  by_cases hf : findP s.1 c s.2.length < s.1.length
  · rw [if_pos hf]
    obtain ⟨hge, hne⟩ := findP_spec hf
    have hlen := h.len
    generalize findP s.1 c s.2.length = i at *
    obtain ⟨O, κ, hE, hO, hB⟩ := h.st
    have hin : i < n := by omega
    have htn : s.2.length < n := by omega
    have hS := hE.swap hge hin
    have hg1 : ∀ k, k < n → (swapL s.1 s.2.length i).getD k [] = s.1.getD (swp i s.2.length k) [] := fun k hk => swapL_get (by omega) (by omega) (by omega)
    have hg2 : ∀ k, k < n → (clearAll (swapL s.1 s.2.length i) s.2.length c).getD k [] = if k = s.2.length then s.1.getD (swp i s.2.length k) [] else clearZ (s.1.getD (swp i s.2.length k) []) (s.1.getD i []) c := fun k hk => by
      rw [clearAll_get (by rw [swapL_len]; omega), hg1 k hk, hg1 _ htn, swp_t]
    have hrow : ∀ k, k < n → (s.1.getD (swp i s.2.length k) []).length = cols ∧ Prm (s.1.getD (swp i s.2.length k) []) := fun k hk => h.row _ (swp_bd hin htn hk)
    refine ⟨by rw [clearAll_len, swapL_len]; exact hlen, fun k hk => ?_, fun k => O (swp i s.2.length k), fun k => κ (swp i s.2.length k), ?_, fun k hk j => hO _ (swp_bd hin htn hk) j, by rw [sz_swp hin htn]; exact hB⟩
    · rw [hg2 k hk]
      obtain ⟨h1, h2⟩ := hrow k hk
      split
      · exact ⟨h1, h2⟩
      · exact ⟨by rw [clearZ_len (by rw [h1, (h.row i hin).1])]; exact h1, clearZ_prm h2⟩
    · refine EI.clear hS htn (c := c) ?_ ?_ ?_
      · simp only [swp_t]; exact hne
      · simp only [hg2 _ htn, if_pos]
      · intro k hk hkt
        simp only [hg2 k hk, if_neg hkt, swp_t]
        exact clearZ_line (by rw [(hrow k hk).1, (h.row i hin).1]) hne
  · rw [if_neg hf]; exact h
theorem EZ.all {β B cols : Nat} {rows : List (List Int)} {κ : Nat → Nat} (hc : ∀ z ∈ rows, z.length = cols) (hk : ∀ k, k < rows.length → ∀ x ∈ rows.getD k [], x.natAbs ≤ β ^ κ k) (hB : sz κ rows.length ≤ B) : ∀ c, EZ β B rows.length cols (echW rows c)
  | 0 => .start hc hk hB
  | c + 1 => (EZ.all hc hk hB c).step
end Go.Proofs.Ytfjdfnlkobeehaa
end
