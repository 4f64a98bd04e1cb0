/- Part 3 of the way to the statement: the walk and what it needs. -/
import Derived.Test.YtfjdfnlkobeehaaKTuF2
section
set_option linter.unusedVariables false
set_option linter.unusedSimpArgs false
namespace Go.Proofs.Ytfjdfnlkobeehaa


abbrev Vc := Nat → Int

def dtx (f : List Vc → Int) (c : Nat) : List Vc → List Vc → Int
  | _, [] => 0
  | p, r :: rs => r c * f (p ++ rs) - dtx f c (p ++ [r]) rs

def dt : List Nat → List Vc → Int
  | [], [] => 1
  | [], _ :: _ => 0
  | c :: cs, rs => dtx (dt cs) c [] rs
theorem dt_cons (c : Nat) (cs : List Nat) (rs : List Vc) : dt (c :: cs) rs = dtx (dt cs) c [] rs := by rw [dt]
theorem dt_nil_cons (l m : List Vc) (x : Vc) : dt [] (l ++ x :: m) = 0 := by
  cases l <;> rfl


def LinC (cs : List Nat) (f : List Vc → Int) : Prop := ∀ (pre post : List Vc) (a b : Int) (u v w : Vc), (∀ c ∈ cs, w c = a * u c + b * v c) → f (pre ++ w :: post) = a * f (pre ++ u :: post) + b * f (pre ++ v :: post)
theorem dtx_lin_pre {cs : List Nat} {f : List Vc → Int} (hf : LinC cs f) {a b : Int} {u v w : Vc} (hw : ∀ c ∈ cs, w c = a * u c + b * v c) (c : Nat) (p : List Vc) :
    ∀ (post p' : List Vc), dtx f c (p ++ w :: p') post = a * dtx f c (p ++ u :: p') post + b * dtx f c (p ++ v :: p') post
  | [], p' => by simp [dtx]
  | r :: rest, p' => by
    have ih := dtx_lin_pre hf hw c p rest (p' ++ [r])
    have h1 := hf p (p' ++ rest) a b u v w hw
    simp only [dtx, List.append_assoc, List.cons_append] at ih h1 ⊢
    rw [ih, h1]
    simp only [Int.mul_add, Int.mul_sub]
    rw [Int.mul_left_comm (r c) a, Int.mul_left_comm (r c) b]
    omega
theorem dtx_lin {cs : List Nat} {f : List Vc → Int} (hf : LinC cs f) {a b : Int} {u v w : Vc} {c : Nat} (hw : ∀ x ∈ c :: cs, w x = a * u x + b * v x) (post : List Vc) :
    ∀ (pre p : List Vc), dtx f c p (pre ++ w :: post) = a * dtx f c p (pre ++ u :: post) + b * dtx f c p (pre ++ v :: post)
  | [], p => by
    have hw' : ∀ x ∈ cs, w x = a * u x + b * v x := fun x hx => hw x (List.mem_cons_of_mem _ hx)
    have h1 := dtx_lin_pre hf hw' c p post []
    have h2 := hw c (List.mem_cons_self ..)
    simp only [dtx, List.nil_append] at h1 ⊢
    rw [h1, h2]
    simp only [Int.mul_add, Int.mul_sub, Int.add_mul, Int.mul_assoc]
    omega
  | r :: pre, p => by
    have hw' : ∀ x ∈ cs, w x = a * u x + b * v x := fun x hx => hw x (List.mem_cons_of_mem _ hx)
    have ih := dtx_lin hf hw post pre (p ++ [r])
    have h1 := hf (p ++ pre) post a b u v w hw'
    simp only [dtx, List.append_assoc, List.cons_append] at ih h1 ⊢
    rw [ih, h1]
    simp only [Int.mul_add, Int.mul_sub]
    rw [Int.mul_left_comm (r c) a, Int.mul_left_comm (r c) b]
    omega
theorem dt_lin : ∀ cs : List Nat, LinC cs (dt cs)
  | [] => fun pre post a b u v w _ => by rw [dt_nil_cons, dt_nil_cons, dt_nil_cons]; simp
  | c :: cs => fun pre post a b u v w hw => by
    simp only [dt_cons]
    exact dtx_lin (dt_lin cs) hw post pre []


def AltC (f : List Vc → Int) : Prop := ∀ (pre post : List Vc) (x y : Vc), f (pre ++ x :: y :: post) = -f (pre ++ y :: x :: post)
theorem dtx_alt_pre {f : List Vc → Int} (hf : AltC f) (c : Nat) (p : List Vc) (x y : Vc) : ∀ (post p' : List Vc), dtx f c (p ++ x :: y :: p') post = -dtx f c (p ++ y :: x :: p') post
  | [], p' => by simp [dtx]
  | r :: rest, p' => by
    have ih := dtx_alt_pre hf c p x y rest (p' ++ [r])
    have h1 := hf p (p' ++ rest) x y
    simp only [dtx, List.append_assoc, List.cons_append] at ih h1 ⊢
    rw [ih, h1, Int.mul_neg]
    omega
theorem dtx_alt {f : List Vc → Int} (hf : AltC f) (c : Nat) (x y : Vc) (post : List Vc) : ∀ (pre p : List Vc), dtx f c p (pre ++ x :: y :: post) = -dtx f c p (pre ++ y :: x :: post)
  | [], p => by
    have h1 := dtx_alt_pre hf c p x y post []
    simp only [dtx, List.append_assoc, List.cons_append, List.nil_append] at h1 ⊢
    rw [h1]
    omega
  | r :: pre, p => by
    have ih := dtx_alt hf c x y post pre (p ++ [r])
    have h1 := hf (p ++ pre) post x y
    simp only [dtx, List.append_assoc, List.cons_append] at ih h1 ⊢
    rw [ih, h1, Int.mul_neg]
    omega
theorem dt_alt : ∀ cs : List Nat, AltC (dt cs)
  | [] => fun pre post x y => by rw [dt_nil_cons, dt_nil_cons]; rfl
  | c :: cs => fun pre post x y => by
    simp only [dt_cons]
    exact dtx_alt (dt_alt cs) c x y post pre []

theorem dt_twice (cs : List Nat) (x : Vc) (post : List Vc) : ∀ (mid pre : List Vc), dt cs (pre ++ x :: (mid ++ x :: post)) = 0
  | [], pre => by
    have := dt_alt cs pre post x x
    simp only [List.nil_append]
    omega
  | m :: mid, pre => by
    have h1 := dt_alt cs pre (mid ++ x :: post) x m
    have ih := dt_twice cs x post mid (pre ++ [m])
    simp only [List.append_assoc, List.cons_append, List.nil_append] at h1 ih ⊢
    rw [h1, ih]; rfl
theorem dt_mem {cs : List Nat} {x : Vc} {pre post : List Vc} (h : x ∈ pre ∨ x ∈ post) : dt cs (pre ++ x :: post) = 0 := by
  rcases h with h | h
  · obtain ⟨a, b, rfl⟩ := List.append_of_mem h
    have := dt_twice cs x post b a
    simpa [List.append_assoc] using this
  · obtain ⟨a, b, rfl⟩ := List.append_of_mem h
    exact dt_twice cs x b a pre
theorem dt_congr {cs : List Nat} {pre post : List Vc} {u w : Vc} (h : ∀ c ∈ cs, w c = u c) : dt cs (pre ++ w :: post) = dt cs (pre ++ u :: post) := by
  have := dt_lin cs pre post 1 0 u u w (fun c hc => by rw [h c hc]; omega)
  omega
theorem dt_scale {cs : List Nat} {pre post : List Vc} {u w : Vc} {a : Int} (h : ∀ c ∈ cs, w c = a * u c) : dt cs (pre ++ w :: post) = a * dt cs (pre ++ u :: post) := by
  have := dt_lin cs pre post a 0 u u w (fun c hc => by rw [h c hc]; omega)
  omega
theorem dt_zero {cs : List Nat} {pre post : List Vc} {w : Vc} (h : ∀ c ∈ cs, w c = 0) : dt cs (pre ++ w :: post) = 0 := by
  have := dt_lin cs pre post 0 0 w w w (fun c hc => by rw [h c hc]; omega)
  omega

def lcs : List Int → List Vc → Vc
  | a :: as, r :: rs, j => a * r j + lcs as rs j
  | _, _, _ => 0
theorem lcs_nil (rs : List Vc) (j : Nat) : lcs [] rs j = 0 := by rw [lcs]; simp
theorem lcs_app {j : Nat} : ∀ {m : List Int} {rs : List Vc} (n : List Int) (ss : List Vc), m.length = rs.length → lcs (m ++ n) (rs ++ ss) j = lcs m rs j + lcs n ss j
  | [], [], n, ss, _ => by rw [lcs_nil]; simp
  | a :: m, r :: rs, n, ss, h => by
    simp only [List.cons_append, lcs]
    rw [lcs_app n ss (by simpa using h)]; omega
  | [], _ :: _, _, _, h => by simp at h
  | _ :: _, [], _, _, h => by simp at h
theorem lcs_nil_r (m : List Int) (j : Nat) : lcs m [] j = 0 := by cases m <;> rfl
theorem lcs_cons (a : Int) (m : List Int) (r : Vc) (rs : List Vc) (j : Nat) : lcs (a :: m) (r :: rs) j = a * r j + lcs m rs j := rfl

theorem dt_add {cs : List Nat} {pre post : List Vc} {x : Vc} (m : List Int) (rs : List Vc) (w : Vc) (hr : ∀ r ∈ rs, r ∈ pre ∨ r ∈ post) (hw : ∀ c ∈ cs, w c = x c + lcs m rs c) : dt cs (pre ++ w :: post) = dt cs (pre ++ x :: post) := by
  induction m generalizing rs w with
  | nil => exact dt_congr fun c hc => by rw [hw c hc, lcs_nil]; omega
  | cons a m ih =>
    cases rs with
    | nil => exact dt_congr fun c hc => by rw [hw c hc, lcs_nil_r]; omega
    | cons r rs =>
      have ih := ih rs (fun j => x j + lcs m rs j) (fun s hs => hr s (List.mem_cons_of_mem _ hs)) (fun c hc => rfl)
      have h1 := dt_lin cs pre post 1 a (fun j => x j + lcs m rs j) r w (fun c hc => by rw [hw c hc, lcs_cons]; omega)
      rw [dt_mem (hr r (List.mem_cons_self ..)), ih] at h1
      omega

theorem dt_put {cs : List Nat} {pre post : List Vc} {x w : Vc} {a b : Int} {m n : List Int} (hm : ∀ c ∈ cs, b * w c = a * x c + lcs m pre c + lcs n post c) : b * dt cs (pre ++ w :: post) = a * dt cs (pre ++ x :: post) := by
  have h1 := dt_scale (cs := cs) (pre := pre) (post := post) (u := w) (w := fun j => b * w j) (a := b) (fun c hc => rfl)
  have h2 := dt_scale (cs := cs) (pre := pre) (post := post) (u := x) (w := fun j => a * x j) (a := a) (fun c hc => rfl)
  have h3 := dt_add (cs := cs) (pre := pre) (post := post) (x := fun j => a * x j) m pre (fun j => a * x j + lcs m pre j) (fun r hr => .inl hr) (fun c hc => rfl)
  have h4 := dt_add (cs := cs) (pre := pre) (post := post) (x := fun j => a * x j + lcs m pre j) n post (fun j => b * w j) (fun r hr => .inr hr) hm
  rw [← h1, h4, h3, h2]


def sgn : Nat → Int
  | 0 => 1
  | n + 1 => -sgn n
theorem sgn_succ (n : Nat) : sgn (n + 1) = -sgn n := rfl
theorem sgn_ne (n : Nat) : sgn n ≠ 0 := by
  induction n with
  | zero => decide
  | succ n ih => rw [sgn_succ]; omega
theorem sgn_sq (n : Nat) : sgn n * sgn n = 1 := by
  induction n with
  | zero => rfl
  | succ n ih => rw [sgn_succ, Int.neg_mul_neg]; exact ih
theorem dtx_pre0 {f : List Vc → Int} {u : Vc} (hf : ∀ a b, f (a ++ u :: b) = 0) (c : Nat) (p : List Vc) : ∀ (post p' : List Vc), dtx f c (p ++ u :: p') post = 0
  | [], p' => rfl
  | r :: rest, p' => by
    have ih := dtx_pre0 hf c p rest (p' ++ [r])
    have h1 := hf p (p' ++ rest)
    simp only [dtx, List.append_assoc, List.cons_append] at ih h1 ⊢
    rw [ih, h1]; simp
theorem dtx_first {f : List Vc → Int} {u : Vc} (hf : ∀ a b, f (a ++ u :: b) = 0) (c : Nat) (post : List Vc) : ∀ (pre p : List Vc), dtx f c p (pre ++ u :: post) = sgn pre.length * (u c * f (p ++ (pre ++ post)))
  | [], p => by
    have h1 := dtx_pre0 hf c p post []
    simp only [dtx, List.nil_append, List.length_nil, sgn] at h1 ⊢
    rw [h1]; omega
  | r :: pre, p => by
    have ih := dtx_first hf c post pre (p ++ [r])
    have h1 := hf (p ++ pre) post
    simp only [dtx, List.append_assoc, List.cons_append, List.nil_append, List.length_cons, sgn_succ] at ih h1 ⊢
    rw [ih, h1, Int.neg_mul]; omega
theorem dtx_pass_pre {F G : List Vc → Int} {u : Vc} {k : Nat} {x : Int} (hF : ∀ a b, F (a ++ u :: b) = sgn (a.length + k) * (x * G (a ++ b))) (c : Nat) (p : List Vc) : ∀ (post p' : List Vc), dtx F c (p ++ u :: p') post = sgn (p.length + k) * (x * dtx G c (p ++ p') post)
  | [], p' => by simp [dtx]
  | r :: rest, p' => by
    have ih := dtx_pass_pre hF c p rest (p' ++ [r])
    have h1 := hF p (p' ++ rest)
    simp only [dtx, List.append_assoc, List.cons_append] at ih h1 ⊢
    rw [ih, h1]
    simp only [Int.mul_sub]
    rw [Int.mul_left_comm (r c), Int.mul_left_comm (r c) x]
theorem dtx_pass {F G : List Vc → Int} {u : Vc} {k : Nat} {x : Int} (hF : ∀ a b, F (a ++ u :: b) = sgn (a.length + k) * (x * G (a ++ b))) {c : Nat} (hu : u c = 0) (post : List Vc) : ∀ (pre p : List Vc), dtx F c p (pre ++ u :: post) = sgn (p.length + pre.length + k + 1) * (x * dtx G c p (pre ++ post))
  | [], p => by
    have h1 := dtx_pass_pre hF c p post []
    simp only [dtx, List.nil_append, List.length_nil, sgn_succ, List.append_nil, Nat.add_zero] at h1 ⊢
    rw [h1, hu, Int.neg_mul]; omega
  | r :: pre, p => by
    have ih := dtx_pass hF hu post pre (p ++ [r])
    have h1 := hF (p ++ pre) post
    rw [show (p ++ [r]).length + pre.length + k + 1 = (p ++ pre).length + k + 1 + 1 by simp; omega, sgn_succ, sgn_succ] at ih
    rw [show p.length + (r :: pre).length + k + 1 = (p ++ pre).length + k + 1 + 1 by simp; omega, sgn_succ, sgn_succ]
    simp only [dtx, List.append_assoc, List.cons_append, List.nil_append] at ih h1 ⊢
    rw [ih, h1]
    simp only [Int.mul_sub, Int.neg_neg]
    rw [Int.mul_left_comm (r c), Int.mul_left_comm (r c) x]

theorem dt_one {c : Nat} {cr : List Nat} {u : Vc} (hr : ∀ j ∈ cr, u j = 0) (post : List Vc) : ∀ (cl : List Nat) (pre : List Vc), (∀ j ∈ cl, u j = 0) → dt (cl ++ c :: cr) (pre ++ u :: post) = sgn (pre.length + cl.length) * (u c * dt (cl ++ cr) (pre ++ post))
  | [], pre, _ => by
    simp only [List.nil_append, dt_cons, List.length_nil, Nat.add_zero]
    have := dtx_first (f := dt cr) (u := u) (fun a b => dt_zero hr) c post pre []
    simpa using this
  | c0 :: cl, pre, hl => by
    simp only [List.cons_append, dt_cons]
    have hl' : ∀ j ∈ cl, u j = 0 := fun j hj => hl j (List.mem_cons_of_mem _ hj)
    have key : ∀ (post pre : List Vc), dt (cl ++ c :: cr) (pre ++ u :: post) = sgn (pre.length + cl.length) * (u c * dt (cl ++ cr) (pre ++ post)) := fun post pre => dt_one hr post cl pre hl'
    have := dtx_pass (F := dt (cl ++ c :: cr)) (G := dt (cl ++ cr)) (u := u) (k := cl.length) (x := u c) (fun a b => key b a) (c := c0) (hl c0 (List.mem_cons_self ..)) post pre []
    simpa [Nat.add_assoc] using this
end Go.Proofs.Ytfjdfnlkobeehaa
end

section
set_option linter.unusedVariables false
set_option linter.unusedSimpArgs false
namespace Go.Proofs.Ytfjdfnlkobeehaa

theorem lcs_neg : ∀ (m : List Int) (R : List Vc) (j : Nat), lcs (m.map (- ·)) R j = -lcs m R j
  | [], R, j => by simp [lcs_nil]
  | a :: m, [], j => by simp [lcs_nil_r]
  | a :: m, r :: R, j => by rw [List.map_cons, lcs_cons, lcs_cons, lcs_neg m R j, Int.neg_mul, Int.neg_add]
theorem dtx_lcs (f : List Vc → Int) : ∀ (l p : List Vc), ∃ m : List Int, m.length = l.length ∧ ∀ k, dtx f k p l = lcs m l k
  | [], p => ⟨[], rfl, fun k => by rw [lcs_nil]; rfl⟩
  | r :: rs, p => by
    obtain ⟨m, h1, h2⟩ := dtx_lcs f rs (p ++ [r])
    refine ⟨f (p ++ rs) :: m.map (- ·), by simp [h1], fun k => ?_⟩
    rw [lcs_cons, lcs_neg, ← h2 k, dtx, Int.mul_comm]; rfl
theorem dtx_zeroF {f : List Vc → Int} (hf : ∀ q, f q = 0) (c : Nat) : ∀ (l p : List Vc), dtx f c p l = 0
  | [], p => rfl
  | r :: rs, p => by rw [dtx, hf, dtx_zeroF hf c rs]; simp
theorem dtx_sub {f g : List Vc → Int} (a b : Int) (c : Nat) : ∀ (l p : List Vc), dtx (fun q => a * f q + b * g q) c p l = a * dtx f c p l + b * dtx g c p l
  | [], p => by simp [dtx]
  | r :: rs, p => by
    simp only [dtx, dtx_sub a b c rs, Int.mul_add, Int.mul_sub]
    rw [Int.mul_left_comm (r c) a, Int.mul_left_comm (r c) b]
    omega
theorem dtx_split (f : List Vc → Int) (c : Nat) (m : List Vc) : ∀ (P u : List Vc), dtx f c u (P ++ m) = dtx (fun q => f (q ++ m)) c u P + sgn P.length * dtx f c (u ++ P) m
  | [], u => by simp [dtx, sgn]
  | x :: P, u => by
    rw [List.cons_append, dtx, dtx, dtx_split f c m P (u ++ [x]), List.length_cons, sgn_succ, Int.neg_mul, List.append_assoc, List.append_assoc]
    show _ = _ - _ + -(sgn P.length * dtx f c (u ++ ([x] ++ P)) m)
    omega

def dtX (g : List Vc → Int) (a b : Nat) : List Vc → List Vc → Int
  | _, [] => 0
  | p, r :: rs => r a * dtx g b p rs - r b * dtx g a p rs + dtX g a b (p ++ [r]) rs
theorem dtX_anti (g : List Vc → Int) (a b : Nat) : ∀ (l p : List Vc), dtX g a b p l = -dtX g b a p l
  | [], p => rfl
  | r :: rs, p => by
    have := dtX_anti g a b rs (p ++ [r])
    simp only [dtX]
    omega
theorem dtx_two (g : List Vc → Int) (a b : Nat) : ∀ (l P : List Vc), dtx (dtx g b []) a P l = dtx (fun q => dtx g a q l) b [] P + sgn P.length * dtX g a b P l
  | [], P => by
    rw [dtx_zeroF (f := fun q => dtx g a q []) (fun q => rfl)]
    simp [dtx, dtX]
  | r :: rs, P => by
    have ih := dtx_two g a b rs (P ++ [r])
    have e1 := dtx_split (fun q => dtx g a q rs) b [r] P []
    have e2 := dtx_split g b rs P []
    have e3 : dtx (fun q => dtx g a q rs) b ([] ++ P) [r] = r b * dtx g a P rs := by simp [dtx]
    rw [e3] at e1
    have e4 : dtx (fun q => dtx g a q (r :: rs)) b [] P = r a * dtx (fun q => g (q ++ rs)) b [] P - dtx (fun q => dtx g a (q ++ [r]) rs) b [] P := by
      have := dtx_sub (f := fun q => g (q ++ rs)) (g := fun q => dtx g a (q ++ [r]) rs) (r a) (-1) b P []
      rw [show (fun q => dtx g a q (r :: rs)) = fun q => r a * g (q ++ rs) + -1 * dtx g a (q ++ [r]) rs from funext fun q => by rw [dtx]; omega, this]
      omega
    rw [dtx, ih, e1, e2, e4, dtX, List.length_append, List.length_singleton, sgn_succ, List.nil_append]
    simp only [Int.mul_add, Int.mul_sub, Int.neg_mul]
    rw [Int.mul_left_comm (sgn P.length) (r a), Int.mul_left_comm (sgn P.length) (r b)]
    omega

theorem dt_csw (a b : Nat) (cs : List Nat) (rs : List Vc) : dt (a :: b :: cs) rs = -dt (b :: a :: cs) rs := by
  have e : ∀ a b, dt (a :: b :: cs) rs = dtX (dt cs) a b [] rs := fun a b => by
    have h := dtx_two (dt cs) a b rs []
    have h0 : dtx (fun q => dtx (dt cs) a q rs) b [] [] = 0 := rfl
    rw [h0] at h
    rw [dt_cons, show dt (b :: cs) = dtx (dt cs) b [] from funext fun q => dt_cons b cs q, h]
    simp [sgn]
  rw [e a b, e b a, dtX_anti]
theorem dt_cswl (a b : Nat) (cs : List Nat) : ∀ (l : List Nat) (rs : List Vc), dt (l ++ a :: b :: cs) rs = -dt (l ++ b :: a :: cs) rs
  | [], rs => dt_csw a b cs rs
  | c :: l, rs => by
    rw [List.cons_append, List.cons_append, dt_cons, dt_cons]
    have : dt (l ++ a :: b :: cs) = fun q => -1 * dt (l ++ b :: a :: cs) q + 0 * dt [] q := funext fun q => by rw [dt_cswl a b cs l q]; omega
    rw [this, dtx_sub]; omega
theorem dt_cmove (a : Nat) (cs : List Nat) : ∀ (l : List Nat) (pre : List Nat) (rs : List Vc), dt (pre ++ a :: (l ++ cs)) rs = sgn l.length * dt (pre ++ (l ++ a :: cs)) rs
  | [], pre, rs => by simp [sgn]
  | c :: l, pre, rs => by
    rw [List.cons_append, dt_cswl, show pre ++ c :: a :: (l ++ cs) = (pre ++ [c]) ++ a :: (l ++ cs) by simp, dt_cmove a cs l, List.length_cons, sgn_succ, Int.neg_mul]
    simp
theorem dt_rmove (cs : List Nat) (x : Vc) (R : List Vc) : ∀ (l pre : List Vc), dt cs (pre ++ x :: (l ++ R)) = sgn l.length * dt cs (pre ++ (l ++ x :: R))
  | [], pre => by simp [sgn]
  | c :: l, pre => by
    rw [List.cons_append, dt_alt cs pre (l ++ R) x c, show pre ++ c :: x :: (l ++ R) = (pre ++ [c]) ++ x :: (l ++ R) by simp, dt_rmove cs x R l, List.length_cons, sgn_succ, Int.neg_mul]
    simp
theorem dt_cend (a : Nat) (l pre : List Nat) (rs : List Vc) : dt (pre ++ (l ++ [a])) rs = sgn l.length * dt (pre ++ a :: l) rs := by
  have h := dt_cmove a [] l pre rs
  rw [List.append_nil] at h
  rw [h, ← Int.mul_assoc, sgn_sq, Int.one_mul]
theorem dt_rend (cs : List Nat) (x : Vc) (l pre : List Vc) : dt cs (pre ++ (l ++ [x])) = sgn l.length * dt cs (pre ++ x :: l) := by
  have h := dt_rmove cs x [] l pre
  rw [List.append_nil] at h
  rw [h, ← Int.mul_assoc, sgn_sq, Int.one_mul]

def rsg : Nat → Int
  | 0 => 1
  | n + 1 => sgn n * rsg n
theorem rsg_sq : ∀ n, rsg n * rsg n = 1
  | 0 => rfl
  | n + 1 => by
    rw [rsg, show sgn n * rsg n * (sgn n * rsg n) = (sgn n * sgn n) * (rsg n * rsg n) by ac_rfl, sgn_sq, rsg_sq n]; rfl
theorem dt_crev (rs : List Vc) : ∀ (cs pre : List Nat), dt (pre ++ cs.reverse) rs = rsg cs.length * dt (pre ++ cs) rs
  | [], pre => by simp [rsg]
  | c :: cs, pre => by
    have h := dt_crev rs cs (pre ++ [c])
    simp only [List.append_assoc, List.singleton_append] at h
    rw [List.reverse_cons, dt_cend, h, List.length_reverse, List.length_cons, rsg, Int.mul_assoc]
theorem dt_rrev (cs : List Nat) : ∀ (l pre : List Vc), dt cs (pre ++ l.reverse) = rsg l.length * dt cs (pre ++ l)
  | [], pre => by simp [rsg]
  | c :: l, pre => by
    have h := dt_rrev cs l (pre ++ [c])
    simp only [List.append_assoc, List.singleton_append] at h
    rw [List.reverse_cons, dt_rend, h, List.length_reverse, List.length_cons, rsg, Int.mul_assoc]

theorem dt_rev {cs : List Nat} {rs : List Vc} (h : rs.length = cs.length) : dt cs.reverse rs.reverse = dt cs rs := by
  have h1 := dt_crev rs.reverse cs []
  have h2 := dt_rrev cs rs []
  simp only [List.nil_append] at h1 h2
  rw [h1, h2, h, ← Int.mul_assoc, rsg_sq, Int.one_mul]


theorem dt_exch (cs : List Nat) (pre mid post : List Vc) (x y : Vc) : dt cs (pre ++ x :: (mid ++ y :: post)) = -dt cs (pre ++ y :: (mid ++ x :: post)) := by
  have h1 := dt_rmove cs x (y :: post) mid pre
  have h2 := dt_rmove cs y (x :: post) mid pre
  rw [h1, h2]
  have h3 := dt_alt cs (pre ++ mid) post x y
  simp only [List.append_assoc] at h3
  rw [h3, Int.mul_neg]
theorem dt_perm (cs : List Nat) {l m : List Vc} (h : l.Perm m) : ∀ pre, dt cs (pre ++ l) = dt cs (pre ++ m) ∨ dt cs (pre ++ l) = -dt cs (pre ++ m) := by
  induction h with
  | nil => exact fun pre => .inl rfl
  | cons x _ ih =>
    intro pre
    have := ih (pre ++ [x])
    simpa using this
  | swap x y l => exact fun pre => .inr (dt_alt cs pre l y x)
  | trans _ _ ih1 ih2 =>
    intro pre
    rcases ih1 pre with h1 | h1 <;> rcases ih2 pre with h2 | h2 <;> rw [h1, h2]
    · exact .inl rfl
    · exact .inr rfl
    · exact .inr rfl
    · exact .inl (by omega)


def nmr (C : List Nat) (R : List Vc) (x : Vc) : Vc := fun k => dt (k :: C) (x :: R)
theorem nmr_lcs (C : List Nat) (R : List Vc) (x : Vc) : ∃ m : List Int, m.length = R.length ∧ ∀ k, nmr C R x k = dt C R * x k + lcs m R k := by
  obtain ⟨m, h1, h2⟩ := dtx_lcs (dt C) R [x]
  refine ⟨m.map (- ·), by simp [h1], fun k => ?_⟩
  rw [lcs_neg, ← h2 k]
  show dt (k :: C) (x :: R) = _
  rw [dt_cons, dtx, Int.mul_comm]
  simp only [List.nil_append]
  omega
theorem dt_u {C : List Nat} {R : List Vc} {u : Vc} (hu : ∀ k ∈ C, u k = 0) (c : Nat) : dt (c :: C) (u :: R) = u c * dt C R := by
  have h := dtx_pre0 (f := dt C) (u := u) (fun a b => dt_zero hu) c [] R []
  rw [List.nil_append] at h
  rw [dt_cons, dtx, List.nil_append, List.nil_append, h]; omega
theorem dtx_pre00 {f : List Vc → Int} {u v : Vc} (hf : ∀ q, f (u :: v :: q) = 0) (c : Nat) : ∀ (l p : List Vc), dtx f c (u :: v :: p) l = 0
  | [], p => rfl
  | r :: rs, p => by
    have := dtx_pre00 hf c rs (p ++ [r])
    simp only [dtx, List.cons_append] at this ⊢
    rw [hf, this]; simp
theorem dt_uv {C : List Nat} {R : List Vc} {u v : Vc} (hu : ∀ k ∈ C, u k = 0) (hv : ∀ k ∈ C, v k = 0) (k c : Nat) : dt (k :: c :: C) (u :: v :: R) = (u k * v c - u c * v k) * dt C R := by
  have h0 : ∀ q, dt (c :: C) (u :: v :: q) = 0 := fun q => by
    rw [dt_u hu]
    have := dt_zero (pre := []) (post := q) hv
    rw [List.nil_append] at this
    rw [this, Int.mul_zero]
  rw [dt_cons, dtx, dtx]
  simp only [List.nil_append, List.singleton_append]
  rw [dt_u hv, dt_u hu, dtx_pre00 h0 k R [], Int.sub_mul]
  have e1 : u k * (v c * dt C R) = u k * v c * dt C R := (Int.mul_assoc ..).symm
  have e2 : v k * (u c * dt C R) = u c * v k * dt C R := by ac_rfl
  rw [e1, e2]; omega

theorem bar_step {C : List Nat} {R : List Vc} (hD : dt C R ≠ 0) (hV : ∀ x, ∀ k ∈ C, nmr C R x k = 0) (x o : Vc) (k c : Nat) :
    dt C R * nmr (c :: C) (o :: R) x k = nmr C R x k * nmr C R o c - nmr C R x c * nmr C R o k := by
  obtain ⟨m, hm, h1⟩ := nmr_lcs C R x
  obtain ⟨n, hn, h2⟩ := nmr_lcs C R o
  have e1 : dt (k :: c :: C) (nmr C R x :: o :: R) = dt C R * dt (k :: c :: C) (x :: o :: R) := by
    have := dt_put (cs := k :: c :: C) (pre := []) (post := o :: R) (x := x) (w := nmr C R x) (a := dt C R) (b := 1) (m := []) (n := 0 :: m) fun j _ => by
      rw [h1 j, lcs_nil, lcs_cons]; omega
    simpa using this
  have e2 : dt (k :: c :: C) (nmr C R x :: nmr C R o :: R) = dt C R * dt (k :: c :: C) (nmr C R x :: o :: R) := by
    have := dt_put (cs := k :: c :: C) (pre := [nmr C R x]) (post := R) (x := o) (w := nmr C R o) (a := dt C R) (b := 1) (m := [0]) (n := n) fun j _ => by
      rw [h2 j, lcs_cons, lcs_nil]; omega
    simpa using this
  have e3 := dt_uv (C := C) (R := R) (hV x) (hV o) k c
  rw [e2, e1] at e3
  show dt C R * dt (k :: c :: C) (x :: o :: R) = _
  rw [Int.mul_comm _ (dt C R)] at e3
  exact Int.eq_of_mul_eq_mul_left hD e3
theorem bar_zero {C : List Nat} {R : List Vc} (hD : dt C R ≠ 0) (hV : ∀ x, ∀ k ∈ C, nmr C R x k = 0) (o : Vc) (c : Nat) : ∀ x, ∀ k ∈ c :: C, nmr (c :: C) (o :: R) x k = 0 := fun x k hk => by
  have h := bar_step hD hV x o k c
  have : dt C R * nmr (c :: C) (o :: R) x k = 0 := by
    rw [h]
    rcases List.mem_cons.1 hk with rfl | hk
    · omega
    · rw [hV x k hk, hV o k hk]; omega
  exact (Int.mul_eq_zero.1 this).resolve_left hD

def CC (c : Nat) : List Nat := (List.range c).reverse
def RRo (O : Nat → Vc) (c : Nat) : List Vc := (CC c).map O
theorem CC_succ (c : Nat) : CC (c + 1) = c :: CC c := by unfold CC; rw [List.range_succ, List.reverse_append]; rfl
theorem RRo_succ (O : Nat → Vc) (c : Nat) : RRo O (c + 1) = O c :: RRo O c := by unfold RRo; rw [CC_succ]; rfl
theorem RRo_len (O : Nat → Vc) (c : Nat) : (RRo O c).length = c := by simp [RRo, CC]
theorem mem_CC {c k : Nat} : k ∈ CC c ↔ k < c := by simp [CC]
theorem RRo_congr {O O' : Nat → Vc} {c : Nat} (h : ∀ i, i < c → O i = O' i) : RRo O c = RRo O' c := List.map_congr_left fun i hi => h i (mem_CC.1 hi)

def DD (O : Nat → Vc) (c : Nat) : Int := dt (CC c) (RRo O c)
def NN (O : Nat → Vc) (c : Nat) (x : Vc) : Vc := nmr (CC c) (RRo O c) x
theorem DD_zero (O : Nat → Vc) : DD O 0 = 1 := rfl
theorem DD_succ (O : Nat → Vc) (c : Nat) : DD O (c + 1) = NN O c (O c) c := by unfold DD NN nmr; rw [CC_succ, RRo_succ]
theorem NN_zero (O : Nat → Vc) (x : Vc) (k : Nat) : NN O 0 x k = x k := by
  show dt [k] [x] = x k
  simp [dt, dtx]
theorem DD_range (O : Nat → Vc) (n : Nat) : DD O n = dt (List.range n) ((List.range n).map O) := by
  unfold DD RRo CC
  rw [List.map_reverse]
  exact dt_rev (by simp)
theorem NN_low {O : Nat → Vc} : ∀ {c : Nat}, (∀ j, j < c → DD O j ≠ 0) → ∀ x, ∀ k ∈ CC c, nmr (CC c) (RRo O c) x k = 0
  | 0, _ => fun x k hk => by simp [CC] at hk
  | c + 1, h => by
    rw [CC_succ, RRo_succ]
    exact bar_zero (h c (by omega)) (NN_low fun j hj => h j (by omega)) _ _
theorem NN_step {O : Nat → Vc} {c : Nat} (h : ∀ j, j ≤ c → DD O j ≠ 0) (x : Vc) (k : Nat) : DD O c * NN O (c + 1) x k = NN O c x k * NN O c (O c) c - NN O c x c * NN O c (O c) k := by
  have := bar_step (h c (Nat.le_refl _)) (NN_low fun j hj => h j (by omega)) x (O c) k c
  unfold NN DD
  rw [CC_succ, RRo_succ]
  exact this
theorem NN_congr {O O' : Nat → Vc} {c : Nat} (h : ∀ i, i < c → O i = O' i) (x : Vc) : NN O c x = NN O' c x := by unfold NN; rw [RRo_congr h]
theorem DD_congr {O O' : Nat → Vc} {c : Nat} (h : ∀ i, i < c → O i = O' i) : DD O c = DD O' c := by unfold DD; rw [RRo_congr h]

theorem NN_lin (O : Nat → Vc) (c : Nat) {u v w : Vc} {a b g : Int} (h : ∀ j, g * w j = a * u j + b * v j) (k : Nat) : g * NN O c w k = a * NN O c u k + b * NN O c v k := by
  have e1 := dt_lin (k :: CC c) [] (RRo O c) a b u v (fun j => g * w j) (fun j _ => h j)
  have e2 := dt_scale (cs := k :: CC c) (pre := []) (post := RRo O c) (u := w) (w := fun j => g * w j) (a := g) (fun j _ => rfl)
  simp only [List.nil_append] at e1 e2
  rw [e2] at e1
  exact e1
end Go.Proofs.Ytfjdfnlkobeehaa
end
