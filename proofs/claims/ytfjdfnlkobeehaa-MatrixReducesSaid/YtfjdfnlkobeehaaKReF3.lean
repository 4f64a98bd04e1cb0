/- Part 3 of the way to the statement: the walk and what it needs. -/
import Derived.Test.YtfjdfnlkobeehaaKReF2
section
set_option linter.unusedVariables false
set_option linter.unusedSimpArgs false
namespace Go.Proofs.Ytfjdfnlkobeehaa


abbrev Vc := Nat → Int

def dtx (f : List Vc → Int) (c : Nat) : List Vc → List Vc → Int
  | _, [] => 0
  | p, r :: rs => r c * f (p ++ rs) - dtx f c (p ++ [r]) rs

def dt : List Nat → List Vc → Int
  | [], [] => 1
  | [], _ :: _ => 0
  | c :: cs, rs => dtx (dt cs) c [] rs
theorem dt_cons (c : Nat) (cs : List Nat) (rs : List Vc) : dt (c :: cs) rs = dtx (dt cs) c [] rs := by rw [dt]
theorem dt_nil_cons (l m : List Vc) (x : Vc) : dt [] (l ++ x :: m) = 0 := by
  cases l <;> rfl


def LinC (cs : List Nat) (f : List Vc → Int) : Prop := ∀ (pre post : List Vc) (a b : Int) (u v w : Vc), (∀ c ∈ cs, w c = a * u c + b * v c) → f (pre ++ w :: post) = a * f (pre ++ u :: post) + b * f (pre ++ v :: post)
theorem dtx_lin_pre {cs : List Nat} {f : List Vc → Int} (hf : LinC cs f) {a b : Int} {u v w : Vc} (hw : ∀ c ∈ cs, w c = a * u c + b * v c) (c : Nat) (p : List Vc) :
    ∀ (post p' : List Vc), dtx f c (p ++ w :: p') post = a * dtx f c (p ++ u :: p') post + b * dtx f c (p ++ v :: p') post
  | [], p' => by simp [dtx]
  | r :: rest, p' => by
    have ih := dtx_lin_pre hf hw c p rest (p' ++ [r])
    have h1 := hf p (p' ++ rest) a b u v w hw
    simp only [dtx, List.append_assoc, List.cons_append] at ih h1 ⊢
    rw [ih, h1]
    simp only [Int.mul_add, Int.mul_sub]
    rw [Int.mul_left_comm (r c) a, Int.mul_left_comm (r c) b]
    omega
theorem dtx_lin {cs : List Nat} {f : List Vc → Int} (hf : LinC cs f) {a b : Int} {u v w : Vc} {c : Nat} (hw : ∀ x ∈ c :: cs, w x = a * u x + b * v x) (post : List Vc) :
    ∀ (pre p : List Vc), dtx f c p (pre ++ w :: post) = a * dtx f c p (pre ++ u :: post) + b * dtx f c p (pre ++ v :: post)
  | [], p => by
    have hw' : ∀ x ∈ cs, w x = a * u x + b * v x := fun x hx => hw x (List.mem_cons_of_mem _ hx)
    have h1 := dtx_lin_pre hf hw' c p post []
    have h2 := hw c (List.mem_cons_self ..)
    simp only [dtx, List.nil_append] at h1 ⊢
    rw [h1, h2]
    simp only [Int.mul_add, Int.mul_sub, Int.add_mul, Int.mul_assoc]
    omega
  | r :: pre, p => by
    have hw' : ∀ x ∈ cs, w x = a * u x + b * v x := fun x hx => hw x (List.mem_cons_of_mem _ hx)
    have ih := dtx_lin hf hw post pre (p ++ [r])
    have h1 := hf (p ++ pre) post a b u v w hw'
    simp only [dtx, List.append_assoc, List.cons_append] at ih h1 ⊢
    rw [ih, h1]
    simp only [Int.mul_add, Int.mul_sub]
    rw [Int.mul_left_comm (r c) a, Int.mul_left_comm (r c) b]
    omega
theorem dt_lin : ∀ cs : List Nat, LinC cs (dt cs)
  | [] => fun pre post a b u v w _ => by rw [dt_nil_cons, dt_nil_cons, dt_nil_cons]; simp
  | c :: cs => fun pre post a b u v w hw => by
    simp only [dt_cons]
    exact dtx_lin (dt_lin cs) hw post pre []


def AltC (f : List Vc → Int) : Prop := ∀ (pre post : List Vc) (x y : Vc), f (pre ++ x :: y :: post) = -f (pre ++ y :: x :: post)
theorem dtx_alt_pre {f : List Vc → Int} (hf : AltC f) (c : Nat) (p : List Vc) (x y : Vc) : ∀ (post p' : List Vc), dtx f c (p ++ x :: y :: p') post = -dtx f c (p ++ y :: x :: p') post
  | [], p' => by simp [dtx]
  | r :: rest, p' => by
    have ih := dtx_alt_pre hf c p x y rest (p' ++ [r])
    have h1 := hf p (p' ++ rest) x y
    simp only [dtx, List.append_assoc, List.cons_append] at ih h1 ⊢
    rw [ih, h1, Int.mul_neg]
    omega
theorem dtx_alt {f : List Vc → Int} (hf : AltC f) (c : Nat) (x y : Vc) (post : List Vc) : ∀ (pre p : List Vc), dtx f c p (pre ++ x :: y :: post) = -dtx f c p (pre ++ y :: x :: post)
  | [], p => by
    have h1 := dtx_alt_pre hf c p x y post []
    simp only [dtx, List.append_assoc, List.cons_append, List.nil_append] at h1 ⊢
    rw [h1]
    omega
  | r :: pre, p => by
    have ih := dtx_alt hf c x y post pre (p ++ [r])
    have h1 := hf (p ++ pre) post x y
    simp only [dtx, List.append_assoc, List.cons_append] at ih h1 ⊢
    rw [ih, h1, Int.mul_neg]
    omega
theorem dt_alt : ∀ cs : List Nat, AltC (dt cs)
  | [] => fun pre post x y => by rw [dt_nil_cons, dt_nil_cons]; rfl
  | c :: cs => fun pre post x y => by
    simp only [dt_cons]
    exact dtx_alt (dt_alt cs) c x y post pre []

theorem dt_twice (cs : List Nat) (x : Vc) (post : List Vc) : ∀ (mid pre : List Vc), dt cs (pre ++ x :: (mid ++ x :: post)) = 0
  | [], pre => by
    have := dt_alt cs pre post x x
    simp only [List.nil_append]
    omega
  | m :: mid, pre => by
    have h1 := dt_alt cs pre (mid ++ x :: post) x m
    have ih := dt_twice cs x post mid (pre ++ [m])
    simp only [List.append_assoc, List.cons_append, List.nil_append] at h1 ih ⊢
    rw [h1, ih]; rfl
theorem dt_mem {cs : List Nat} {x : Vc} {pre post : List Vc} (h : x ∈ pre ∨ x ∈ post) : dt cs (pre ++ x :: post) = 0 := by
  rcases h with h | h
  · obtain ⟨a, b, rfl⟩ := List.append_of_mem h
    have := dt_twice cs x post b a
    simpa [List.append_assoc] using this
  · obtain ⟨a, b, rfl⟩ := List.append_of_mem h
    exact dt_twice cs x b a pre
theorem dt_congr {cs : List Nat} {pre post : List Vc} {u w : Vc} (h : ∀ c ∈ cs, w c = u c) : dt cs (pre ++ w :: post) = dt cs (pre ++ u :: post) := by
  have := dt_lin cs pre post 1 0 u u w (fun c hc => by rw [h c hc]; omega)
  omega
theorem dt_scale {cs : List Nat} {pre post : List Vc} {u w : Vc} {a : Int} (h : ∀ c ∈ cs, w c = a * u c) : dt cs (pre ++ w :: post) = a * dt cs (pre ++ u :: post) := by
  have := dt_lin cs pre post a 0 u u w (fun c hc => by rw [h c hc]; omega)
  omega
theorem dt_zero {cs : List Nat} {pre post : List Vc} {w : Vc} (h : ∀ c ∈ cs, w c = 0) : dt cs (pre ++ w :: post) = 0 := by
  have := dt_lin cs pre post 0 0 w w w (fun c hc => by rw [h c hc]; omega)
  omega

def lcs : List Int → List Vc → Vc
  | a :: as, r :: rs, j => a * r j + lcs as rs j
  | _, _, _ => 0
theorem lcs_nil (rs : List Vc) (j : Nat) : lcs [] rs j = 0 := by rw [lcs]; simp
theorem lcs_app {j : Nat} : ∀ {m : List Int} {rs : List Vc} (n : List Int) (ss : List Vc), m.length = rs.length → lcs (m ++ n) (rs ++ ss) j = lcs m rs j + lcs n ss j
  | [], [], n, ss, _ => by rw [lcs_nil]; simp
  | a :: m, r :: rs, n, ss, h => by
    simp only [List.cons_append, lcs]
    rw [lcs_app n ss (by simpa using h)]; omega
  | [], _ :: _, _, _, h => by simp at h
  | _ :: _, [], _, _, h => by simp at h
theorem lcs_nil_r (m : List Int) (j : Nat) : lcs m [] j = 0 := by cases m <;> rfl
theorem lcs_cons (a : Int) (m : List Int) (r : Vc) (rs : List Vc) (j : Nat) : lcs (a :: m) (r :: rs) j = a * r j + lcs m rs j := rfl

theorem dt_add {cs : List Nat} {pre post : List Vc} {x : Vc} (m : List Int) (rs : List Vc) (w : Vc) (hr : ∀ r ∈ rs, r ∈ pre ∨ r ∈ post) (hw : ∀ c ∈ cs, w c = x c + lcs m rs c) : dt cs (pre ++ w :: post) = dt cs (pre ++ x :: post) := by
  induction m generalizing rs w with
  | nil => exact dt_congr fun c hc => by rw [hw c hc, lcs_nil]; omega
  | cons a m ih =>
    cases rs with
    | nil => exact dt_congr fun c hc => by rw [hw c hc, lcs_nil_r]; omega
    | cons r rs =>
      have ih := ih rs (fun j => x j + lcs m rs j) (fun s hs => hr s (List.mem_cons_of_mem _ hs)) (fun c hc => rfl)
      have h1 := dt_lin cs pre post 1 a (fun j => x j + lcs m rs j) r w (fun c hc => by rw [hw c hc, lcs_cons]; omega)
      rw [dt_mem (hr r (List.mem_cons_self ..)), ih] at h1
      omega

theorem dt_put {cs : List Nat} {pre post : List Vc} {x w : Vc} {a b : Int} {m n : List Int} (hm : ∀ c ∈ cs, b * w c = a * x c + lcs m pre c + lcs n post c) : b * dt cs (pre ++ w :: post) = a * dt cs (pre ++ x :: post) := by
  have h1 := dt_scale (cs := cs) (pre := pre) (post := post) (u := w) (w := fun j => b * w j) (a := b) (fun c hc => rfl)
  have h2 := dt_scale (cs := cs) (pre := pre) (post := post) (u := x) (w := fun j => a * x j) (a := a) (fun c hc => rfl)
  have h3 := dt_add (cs := cs) (pre := pre) (post := post) (x := fun j => a * x j) m pre (fun j => a * x j + lcs m pre j) (fun r hr => .inl hr) (fun c hc => rfl)
  have h4 := dt_add (cs := cs) (pre := pre) (post := post) (x := fun j => a * x j + lcs m pre j) n post (fun j => b * w j) (fun r hr => .inr hr) hm
  rw [← h1, h4, h3, h2]


def sgn : Nat → Int
  | 0 => 1
  | n + 1 => -sgn n
theorem sgn_succ (n : Nat) : sgn (n + 1) = -sgn n := rfl
theorem sgn_ne (n : Nat) : sgn n ≠ 0 := by
  induction n with
  | zero => decide
  | succ n ih => rw [sgn_succ]; omega
theorem dtx_pre0 {f : List Vc → Int} {u : Vc} (hf : ∀ a b, f (a ++ u :: b) = 0) (c : Nat) (p : List Vc) : ∀ (post p' : List Vc), dtx f c (p ++ u :: p') post = 0
  | [], p' => rfl
  | r :: rest, p' => by
    have ih := dtx_pre0 hf c p rest (p' ++ [r])
    have h1 := hf p (p' ++ rest)
    simp only [dtx, List.append_assoc, List.cons_append] at ih h1 ⊢
    rw [ih, h1]; simp
theorem dtx_first {f : List Vc → Int} {u : Vc} (hf : ∀ a b, f (a ++ u :: b) = 0) (c : Nat) (post : List Vc) : ∀ (pre p : List Vc), dtx f c p (pre ++ u :: post) = sgn pre.length * (u c * f (p ++ (pre ++ post)))
  | [], p => by
    have h1 := dtx_pre0 hf c p post []
    simp only [dtx, List.nil_append, List.length_nil, sgn] at h1 ⊢
    rw [h1]; omega
  | r :: pre, p => by
    have ih := dtx_first hf c post pre (p ++ [r])
    have h1 := hf (p ++ pre) post
    simp only [dtx, List.append_assoc, List.cons_append, List.nil_append, List.length_cons, sgn_succ] at ih h1 ⊢
    rw [ih, h1, Int.neg_mul]; omega
theorem dtx_pass_pre {F G : List Vc → Int} {u : Vc} {k : Nat} {x : Int} (hF : ∀ a b, F (a ++ u :: b) = sgn (a.length + k) * (x * G (a ++ b))) (c : Nat) (p : List Vc) : ∀ (post p' : List Vc), dtx F c (p ++ u :: p') post = sgn (p.length + k) * (x * dtx G c (p ++ p') post)
  | [], p' => by simp [dtx]
  | r :: rest, p' => by
    have ih := dtx_pass_pre hF c p rest (p' ++ [r])
    have h1 := hF p (p' ++ rest)
    simp only [dtx, List.append_assoc, List.cons_append] at ih h1 ⊢
    rw [ih, h1]
    simp only [Int.mul_sub]
    rw [Int.mul_left_comm (r c), Int.mul_left_comm (r c) x]
theorem dtx_pass {F G : List Vc → Int} {u : Vc} {k : Nat} {x : Int} (hF : ∀ a b, F (a ++ u :: b) = sgn (a.length + k) * (x * G (a ++ b))) {c : Nat} (hu : u c = 0) (post : List Vc) : ∀ (pre p : List Vc), dtx F c p (pre ++ u :: post) = sgn (p.length + pre.length + k + 1) * (x * dtx G c p (pre ++ post))
  | [], p => by
    have h1 := dtx_pass_pre hF c p post []
    simp only [dtx, List.nil_append, List.length_nil, sgn_succ, List.append_nil, Nat.add_zero] at h1 ⊢
    rw [h1, hu, Int.neg_mul]; omega
  | r :: pre, p => by
    have ih := dtx_pass hF hu post pre (p ++ [r])
    have h1 := hF (p ++ pre) post
    rw [show (p ++ [r]).length + pre.length + k + 1 = (p ++ pre).length + k + 1 + 1 by simp; omega, sgn_succ, sgn_succ] at ih
    rw [show p.length + (r :: pre).length + k + 1 = (p ++ pre).length + k + 1 + 1 by simp; omega, sgn_succ, sgn_succ]
    simp only [dtx, List.append_assoc, List.cons_append, List.nil_append] at ih h1 ⊢
    rw [ih, h1]
    simp only [Int.mul_sub, Int.neg_neg]
    rw [Int.mul_left_comm (r c), Int.mul_left_comm (r c) x]

theorem dt_one {c : Nat} {cr : List Nat} {u : Vc} (hr : ∀ j ∈ cr, u j = 0) (post : List Vc) : ∀ (cl : List Nat) (pre : List Vc), (∀ j ∈ cl, u j = 0) → dt (cl ++ c :: cr) (pre ++ u :: post) = sgn (pre.length + cl.length) * (u c * dt (cl ++ cr) (pre ++ post))
  | [], pre, _ => by
    simp only [List.nil_append, dt_cons, List.length_nil, Nat.add_zero]
    have := dtx_first (f := dt cr) (u := u) (fun a b => dt_zero hr) c post pre []
    simpa using this
  | c0 :: cl, pre, hl => by
    simp only [List.cons_append, dt_cons]
    have hl' : ∀ j ∈ cl, u j = 0 := fun j hj => hl j (List.mem_cons_of_mem _ hj)
    have key : ∀ (post pre : List Vc), dt (cl ++ c :: cr) (pre ++ u :: post) = sgn (pre.length + cl.length) * (u c * dt (cl ++ cr) (pre ++ post)) := fun post pre => dt_one hr post cl pre hl'
    have := dtx_pass (F := dt (cl ++ c :: cr)) (G := dt (cl ++ cr)) (u := u) (k := cl.length) (x := u c) (fun a b => key b a) (c := c0) (hl c0 (List.mem_cons_self ..)) post pre []
    simpa [Nat.add_assoc] using this
end Go.Proofs.Ytfjdfnlkobeehaa
end

section
set_option linter.unusedVariables false
set_option linter.unusedSimpArgs false
namespace Go.Proofs.Ytfjdfnlkobeehaa

def nmr (C : List Nat) (R : List Vc) (x : Vc) : Vc := fun k => dt (k :: C) (x :: R)
def CC (c : Nat) : List Nat := (List.range c).reverse
def RRo (O : Nat → Vc) (c : Nat) : List Vc := (CC c).map O
def DD (O : Nat → Vc) (c : Nat) : Int := dt (CC c) (RRo O c)
def NN (O : Nat → Vc) (c : Nat) (x : Vc) : Vc := nmr (CC c) (RRo O c) x
end Go.Proofs.Ytfjdfnlkobeehaa
end
